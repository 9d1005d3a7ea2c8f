/- What the functions that the law reaches answer. No conditions. -/
import Derived.Test.YtgclpapfgmckbaaDoorBase6
import Derived.Test.YtgclpapfgmckbaaDoorOwn15
import Derived.Test.YtgclpapfgmckbaaDoorBase2
import Derived.Test.YtgclpapfgmckbaaDoorPartitionLawsLaw2
set_option linter.all false

namespace Go.Own
open Go.Proofs D
set_option maxRecDepth 100000
set_option maxHeartbeats 4000000
namespace drossref08_group
noncomputable def B : Code := (Tryd.f37.body).getD .skip
def W : List Nat := [0, 2, 3, 4, 5, 6, 7, 14, 20, 31, 48]
def res (r : api_Partition) : D × List D := (.agg [.lit (.int .i64 r.Rows), .own (r.Classes.map (eOw (eI .i64)))], [])
def C (x0 : List Int) (r : api_Partition) : Prop := Ret env 37 [.sl (x0.map (eI .i64))] (res r).1 (res r).2
def L1 (x0 : List Int) (y3_1_L1 : List (List Int)) (y4_L1 : Int) (φ : api_Partition → Prop) : Prop := Pt env 37 W B [1, 1, 0, 1, 0] [(0, .sl (x0.map (eI .i64))), (2, .box [.lit (.int .i64 0), .own []]), (3, .box [.lit (.int .i64 ((x0.length : Int))), .own (y3_1_L1.map (eOw (eI .i64)))]), (4, .lit (.int .i64 y4_L1))] (Lv env 37 Tryd.f37 1 res φ)
def L2 (x0 : List Int) (y3_1_L2 : List (List Int)) (y4_L2 : Int) (y5_L2 : List Int) (y6_L2 : Bool) (y7_L2 : Int) (φ : api_Partition → Prop) : Prop := Pt env 37 W B [1, 1, 0, 1, 0, 0, 1, 0, 0, 1, 1, 0, 1, 0] [(0, .sl (x0.map (eI .i64))), (2, .box [.lit (.int .i64 0), .own []]), (3, .box [.lit (.int .i64 ((x0.length : Int))), .own (y3_1_L2.map (eOw (eI .i64)))]), (4, .lit (.int .i64 y4_L2)), (5, .own (y5_L2.map (eI .i64))), (6, .lit (.bool y6_L2)), (7, .lit (.int .i64 y7_L2))] (Lv env 37 Tryd.f37 1 res φ)
def L3 (x0 : List Int) (y3_1_L3 : List (List Int)) (y4_L3 : Int) (y5_L3 : List Int) (y6_L3 : Bool) (y7_L2 : Int) (φ : api_Partition → Prop) : Prop := Pt env 37 W B [1, 1, 0, 1, 0, 0, 1, 0, 0, 1, 1, 0, 1, 0, 0, 1, 1] [(0, .sl (x0.map (eI .i64))), (2, .box [.lit (.int .i64 0), .own []]), (3, .box [.lit (.int .i64 ((x0.length : Int))), .own (y3_1_L3.map (eOw (eI .i64)))]), (4, .lit (.int .i64 y4_L3)), (5, .own (y5_L3.map (eI .i64))), (6, .lit (.bool y6_L3)), (7, .lit (.int .i64 y7_L2))] (Lv env 37 Tryd.f37 1 res φ)
def L4 (x0 : List Int) (y3_1_L4 : List (List Int)) (y4_L2 : Int) (φ : api_Partition → Prop) : Prop := Pt env 37 W B [1, 1, 0, 1, 0, 0, 1, 1] [(0, .sl (x0.map (eI .i64))), (2, .box [.lit (.int .i64 0), .own []]), (3, .box [.lit (.int .i64 ((x0.length : Int))), .own (y3_1_L4.map (eOw (eI .i64)))]), (4, .lit (.int .i64 y4_L2))] (Lv env 37 Tryd.f37 1 res φ)
theorem L1_step (x0 : List Int) (y3_1_L1 : List (List Int)) (y4_L1 : Int) (φ : api_Partition → Prop) (h :
    (if y4_L1 < (x0.length : Int) then
      drossref08_group.L2 x0 y3_1_L1 y4_L1 ([]) false 0 φ
    else
      φ ((⟨(x0.length : Int), y3_1_L1⟩ : api_Partition)))) : L1 x0 y3_1_L1 y4_L1 φ := by
  unfold L1
  refine Pt.loop (p' := [1, 1, 0, 1, 0, 0, 0, 0]) (by kernel_rfl) (by kernel_rfl) ?_
  refine Pt.reg (by kernel_rfl) ?_
  refine AtO.seg 2 (by kernel_rfl) ?_
  refine AtO.val (by kernel_rfl) (val_len (x := (.tmp 12)) (t := 38) (et := 3) (d := .sl (x0.map (eI .i64))) (e := (eI .i64)) (l := x0) (by kernel_rfl) (by kernel_rfl) elemsOf_sl (by kernel_rfl)) ?_
  refine AtO.bool (b := (decide (y4_L1 < (x0.length : Int)))) (by kernel_rfl) (by kernel_rfl) (fun hc => ?_) (fun hc => ?_)
  · have h := ite_t h (of_decide_eq_true hc)
    refine AtO.done (p' := [1, 1, 0, 1, 0, 0, 0, 1]) (F' := [(0, .sl (x0.map (eI .i64))), (2, .box [.lit (.int .i64 0), .own []]), (3, .box [.lit (.int .i64 ((x0.length : Int))), .own (y3_1_L1.map (eOw (eI .i64)))]), (4, .lit (.int .i64 y4_L1)), (14, .lit (.bool true))]) (by kernel_rfl) (by kernel_rfl) (by kernel_rfl) ?_
    refine Pt.cond_t (p' := [1, 1, 0, 1, 0, 0, 0, 1, 0]) (F' := [(0, .sl (x0.map (eI .i64))), (2, .box [.lit (.int .i64 0), .own []]), (3, .box [.lit (.int .i64 ((x0.length : Int))), .own (y3_1_L1.map (eOw (eI .i64)))]), (4, .lit (.int .i64 y4_L1))]) (y := (.tmp 14)) (by kernel_rfl) (by kernel_rfl) (by kernel_rfl) (by kernel_rfl) ?_
    refine Pt.skip (p' := [1, 1, 0, 1, 0, 0, 1, 0, 0, 0]) (by kernel_rfl) (by kernel_rfl) ?_
    refine Pt.reg (by kernel_rfl) ?_
    refine AtO.seg 1 (by kernel_rfl) ?_
    refine AtO.done (p' := [1, 1, 0, 1, 0, 0, 1, 0, 0, 1, 0]) (F' := [(0, .sl (x0.map (eI .i64))), (2, .box [.lit (.int .i64 0), .own []]), (3, .box [.lit (.int .i64 ((x0.length : Int))), .own (y3_1_L1.map (eOw (eI .i64)))]), (4, .lit (.int .i64 y4_L1)), (5, .own [])]) (by kernel_rfl) (by kernel_rfl) (by kernel_rfl) ?_
    refine Pt.reg (by kernel_rfl) ?_
    refine AtO.seg 1 (by kernel_rfl) ?_
    refine AtO.done (p' := [1, 1, 0, 1, 0, 0, 1, 0, 0, 1, 1, 0, 0]) (F' := [(0, .sl (x0.map (eI .i64))), (2, .box [.lit (.int .i64 0), .own []]), (3, .box [.lit (.int .i64 ((x0.length : Int))), .own (y3_1_L1.map (eOw (eI .i64)))]), (4, .lit (.int .i64 y4_L1)), (5, .own []), (6, .lit (.bool false))]) (by kernel_rfl) (by kernel_rfl) (by kernel_rfl) ?_
    refine Pt.reg (by kernel_rfl) ?_
    refine AtO.seg 1 (by kernel_rfl) ?_
    refine AtO.done (p' := [1, 1, 0, 1, 0, 0, 1, 0, 0, 1, 1, 0, 1, 0]) (F' := [(0, .sl (x0.map (eI .i64))), (2, .box [.lit (.int .i64 0), .own []]), (3, .box [.lit (.int .i64 ((x0.length : Int))), .own (y3_1_L1.map (eOw (eI .i64)))]), (4, .lit (.int .i64 y4_L1)), (5, .own []), (6, .lit (.bool false)), (7, .lit (.int .i64 0))]) (by kernel_rfl) (by kernel_rfl) (by kernel_rfl) ?_
    exact h
  · have h := ite_f h (of_decide_eq_false hc)
    refine AtO.done (p' := [1, 1, 0, 1, 0, 0, 0, 1]) (F' := [(0, .sl (x0.map (eI .i64))), (2, .box [.lit (.int .i64 0), .own []]), (3, .box [.lit (.int .i64 ((x0.length : Int))), .own (y3_1_L1.map (eOw (eI .i64)))]), (4, .lit (.int .i64 y4_L1)), (14, .lit (.bool false))]) (by kernel_rfl) (by kernel_rfl) (by kernel_rfl) ?_
    refine Pt.cond_f (p' := [1, 1, 0, 1, 0, 0, 0, 1, 1]) (F' := [(2, .box [.lit (.int .i64 0), .own []]), (3, .box [.lit (.int .i64 ((x0.length : Int))), .own (y3_1_L1.map (eOw (eI .i64)))])]) (y := (.tmp 14)) (by kernel_rfl) (by kernel_rfl) (by kernel_rfl) (by kernel_rfl) ?_
    refine Pt.exit (p' := [1, 1, 1, 0]) (F' := [(2, .box [.lit (.int .i64 0), .own []]), (3, .box [.lit (.int .i64 ((x0.length : Int))), .own (y3_1_L1.map (eOw (eI .i64)))])]) (by kernel_rfl) (by kernel_rfl) (by kernel_rfl) ?_
    refine Pt.reg (by kernel_rfl) ?_
    refine AtO.seg 2 (by kernel_rfl) ?_
    refine AtO.done (p' := [1, 1, 1, 1]) (F' := [(2, .box [.lit (.int .i64 ((x0.length : Int))), .own (y3_1_L1.map (eOw (eI .i64)))])]) (by kernel_rfl) (by kernel_rfl) (by kernel_rfl) ?_
    exact Pt.ret ((⟨(x0.length : Int), y3_1_L1⟩ : api_Partition)) (by kernel_rfl) (by kernel_rfl) h
theorem L2_step (x0 : List Int) (y3_1_L2 : List (List Int)) (y4_L2 : Int) (y5_L2 : List Int) (y6_L2 : Bool) (y7_L2 : Int) (φ : api_Partition → Prop) (h :
    (if y7_L2 < (x0.length : Int) then
      ∃ a1, lget x0 y7_L2 = some a1 ∧
      ∃ a3, lget x0 y4_L2 = some a3 ∧
      (if a1 = a3 then
        (y5_L2.length + 1) * 8 ≤ 140737488355328 ∧
        (if y6_L2 = true then
          drossref08_group.L3 x0 y3_1_L2 y4_L2 ((y5_L2 ++ [y7_L2])) true y7_L2 φ
        else
          drossref08_group.L3 x0 y3_1_L2 y4_L2 ((y5_L2 ++ [y7_L2])) ((decide (y7_L2 < y4_L2))) y7_L2 φ)
      else
        drossref08_group.L3 x0 y3_1_L2 y4_L2 y5_L2 y6_L2 y7_L2 φ)
    else
      (if y6_L2 = true then
        drossref08_group.L4 x0 y3_1_L2 y4_L2 φ
      else
        (if 1 < (y5_L2.length : Int) then
          (y3_1_L2.length + 1) * 24 ≤ 140737488355328 ∧
          drossref08_group.L4 x0 ((y3_1_L2 ++ [y5_L2])) y4_L2 φ
        else
          drossref08_group.L4 x0 y3_1_L2 y4_L2 φ)))) : L2 x0 y3_1_L2 y4_L2 y5_L2 y6_L2 y7_L2 φ := by
  unfold L2
  refine Pt.loop (p' := [1, 1, 0, 1, 0, 0, 1, 0, 0, 1, 1, 0, 1, 0, 0, 0, 0]) (by kernel_rfl) (by kernel_rfl) ?_
  refine Pt.reg (by kernel_rfl) ?_
  refine AtO.seg 2 (by kernel_rfl) ?_
  refine AtO.val (by kernel_rfl) (val_len (x := (.tmp 18)) (t := 38) (et := 3) (d := .sl (x0.map (eI .i64))) (e := (eI .i64)) (l := x0) (by kernel_rfl) (by kernel_rfl) elemsOf_sl (by kernel_rfl)) ?_
  refine AtO.bool (b := (decide (y7_L2 < (x0.length : Int)))) (by kernel_rfl) (by kernel_rfl) (fun hc => ?_) (fun hc => ?_)
  · have h := ite_t h (of_decide_eq_true hc)
    refine AtO.done (p' := [1, 1, 0, 1, 0, 0, 1, 0, 0, 1, 1, 0, 1, 0, 0, 0, 1]) (F' := [(0, .sl (x0.map (eI .i64))), (2, .box [.lit (.int .i64 0), .own []]), (3, .box [.lit (.int .i64 ((x0.length : Int))), .own (y3_1_L2.map (eOw (eI .i64)))]), (4, .lit (.int .i64 y4_L2)), (5, .own (y5_L2.map (eI .i64))), (6, .lit (.bool y6_L2)), (7, .lit (.int .i64 y7_L2)), (20, .lit (.bool true))]) (by kernel_rfl) (by kernel_rfl) (by kernel_rfl) ?_
    refine Pt.cond_t (p' := [1, 1, 0, 1, 0, 0, 1, 0, 0, 1, 1, 0, 1, 0, 0, 0, 1, 0]) (F' := [(0, .sl (x0.map (eI .i64))), (2, .box [.lit (.int .i64 0), .own []]), (3, .box [.lit (.int .i64 ((x0.length : Int))), .own (y3_1_L2.map (eOw (eI .i64)))]), (4, .lit (.int .i64 y4_L2)), (5, .own (y5_L2.map (eI .i64))), (6, .lit (.bool y6_L2)), (7, .lit (.int .i64 y7_L2))]) (y := (.tmp 20)) (by kernel_rfl) (by kernel_rfl) (by kernel_rfl) (by kernel_rfl) ?_
    refine Pt.skip (p' := [1, 1, 0, 1, 0, 0, 1, 0, 0, 1, 1, 0, 1, 0, 0, 1, 0, 0, 0]) (by kernel_rfl) (by kernel_rfl) ?_
    refine Pt.reg (by kernel_rfl) ?_
    obtain ⟨a1, h2, h⟩ := h
    refine AtO.seg 2 (by kernel_rfl) ?_
    refine AtO.val (by kernel_rfl) (val_idx_sl (t := 38) (x := (.tmp 23)) (ix := (.tmp 24)) (et := 3) (k := 1) (e := (eI .i64)) (l := x0) (i := y7_L2) (q := .i64) (a := a1) (by kernel_rfl) (by kernel_rfl) (by kernel_rfl) (by kernel_rfl) (by kernel_rfl) h2 (by kernel_rfl)) ?_
    obtain ⟨a3, h4, h⟩ := h
    refine AtO.seg 3 (by kernel_rfl) ?_
    refine AtO.val (by kernel_rfl) (val_idx_sl (t := 38) (x := (.tmp 27)) (ix := (.tmp 28)) (et := 3) (k := 1) (e := (eI .i64)) (l := x0) (i := y4_L2) (q := .i64) (a := a3) (by kernel_rfl) (by kernel_rfl) (by kernel_rfl) (by kernel_rfl) (by kernel_rfl) h4 (by kernel_rfl)) ?_
    refine AtO.seg 1 (by kernel_rfl) ?_
    refine AtO.bool (b := (a1 == a3)) (by kernel_rfl) (by kernel_rfl) (fun hc => ?_) (fun hc => ?_)
    · have h := ite_t h (beq_t hc)
      refine AtO.done (p' := [1, 1, 0, 1, 0, 0, 1, 0, 0, 1, 1, 0, 1, 0, 0, 1, 0, 0, 1]) (F' := [(0, .sl (x0.map (eI .i64))), (2, .box [.lit (.int .i64 0), .own []]), (3, .box [.lit (.int .i64 ((x0.length : Int))), .own (y3_1_L2.map (eOw (eI .i64)))]), (4, .lit (.int .i64 y4_L2)), (5, .own (y5_L2.map (eI .i64))), (6, .lit (.bool y6_L2)), (7, .lit (.int .i64 y7_L2)), (31, .lit (.bool true))]) (by kernel_rfl) (by kernel_rfl) (by kernel_rfl) ?_
      refine Pt.cond_t (p' := [1, 1, 0, 1, 0, 0, 1, 0, 0, 1, 1, 0, 1, 0, 0, 1, 0, 0, 1, 0, 0]) (F' := [(0, .sl (x0.map (eI .i64))), (2, .box [.lit (.int .i64 0), .own []]), (3, .box [.lit (.int .i64 ((x0.length : Int))), .own (y3_1_L2.map (eOw (eI .i64)))]), (4, .lit (.int .i64 y4_L2)), (5, .own (y5_L2.map (eI .i64))), (6, .lit (.bool y6_L2)), (7, .lit (.int .i64 y7_L2))]) (y := (.tmp 31)) (by kernel_rfl) (by kernel_rfl) (by kernel_rfl) (by kernel_rfl) ?_
      refine Pt.reg (by kernel_rfl) ?_
      obtain ⟨h5, h⟩ := h
      refine AtO.seg 3 (by kernel_rfl) ?_
      refine AtO.op (by kernel_rfl) (app1 (x := (.tmp 32)) (y := (.tmp 34)) (t := 38) (u := 38) (et := 3) (z := .lit (.int .i64 0)) (k := 1) (c := 8) (e := (eI .i64)) (l := y5_L2) (m := [y7_L2]) (by kernel_rfl) (by kernel_rfl) (by kernel_rfl) (by kernel_rfl) (by kernel_rfl) (by kernel_rfl) (by kernel_rfl) (by kernel_rfl) (by kernel_rfl) (by kernel_rfl) (by kernel_rfl) (fun _ => rfl) h5) ?_
      refine AtO.seg 1 (by kernel_rfl) ?_
      refine AtO.done (p' := [1, 1, 0, 1, 0, 0, 1, 0, 0, 1, 1, 0, 1, 0, 0, 1, 0, 0, 1, 0, 1]) (F' := [(0, .sl (x0.map (eI .i64))), (2, .box [.lit (.int .i64 0), .own []]), (3, .box [.lit (.int .i64 ((x0.length : Int))), .own (y3_1_L2.map (eOw (eI .i64)))]), (4, .lit (.int .i64 y4_L2)), (5, .own (((y5_L2 ++ [y7_L2])).map (eI .i64))), (6, .lit (.bool y6_L2)), (7, .lit (.int .i64 y7_L2))]) (by kernel_rfl) (by kernel_rfl) (by kernel_rfl) ?_
      refine Pt.reg (by kernel_rfl) ?_
      refine AtO.bool (b := y6_L2) (by kernel_rfl) (by kernel_rfl) (fun hc => ?_) (fun hc => ?_)
      · have h := ite_t h (id hc)
        refine AtO.seg 6 (by kernel_rfl) ?_
        refine AtO.done (p' := [1, 1, 0, 1, 0, 0, 1, 0, 0, 1, 1, 0, 1, 0, 0, 1, 1]) (F' := [(0, .sl (x0.map (eI .i64))), (2, .box [.lit (.int .i64 0), .own []]), (3, .box [.lit (.int .i64 ((x0.length : Int))), .own (y3_1_L2.map (eOw (eI .i64)))]), (4, .lit (.int .i64 y4_L2)), (5, .own (((y5_L2 ++ [y7_L2])).map (eI .i64))), (6, .lit (.bool true)), (7, .lit (.int .i64 y7_L2))]) (by kernel_rfl) (by kernel_rfl) (by kernel_rfl) ?_
        exact h
      · have h := ite_f h (fls hc)
        refine AtO.seg 6 (by kernel_rfl) ?_
        refine AtO.done (p' := [1, 1, 0, 1, 0, 0, 1, 0, 0, 1, 1, 0, 1, 0, 0, 1, 1]) (F' := [(0, .sl (x0.map (eI .i64))), (2, .box [.lit (.int .i64 0), .own []]), (3, .box [.lit (.int .i64 ((x0.length : Int))), .own (y3_1_L2.map (eOw (eI .i64)))]), (4, .lit (.int .i64 y4_L2)), (5, .own (((y5_L2 ++ [y7_L2])).map (eI .i64))), (6, .lit (.bool ((decide (y7_L2 < y4_L2))))), (7, .lit (.int .i64 y7_L2))]) (by kernel_rfl) (by kernel_rfl) (by kernel_rfl) ?_
        exact h
    · have h := ite_f h (beq_f hc)
      refine AtO.done (p' := [1, 1, 0, 1, 0, 0, 1, 0, 0, 1, 1, 0, 1, 0, 0, 1, 0, 0, 1]) (F' := [(0, .sl (x0.map (eI .i64))), (2, .box [.lit (.int .i64 0), .own []]), (3, .box [.lit (.int .i64 ((x0.length : Int))), .own (y3_1_L2.map (eOw (eI .i64)))]), (4, .lit (.int .i64 y4_L2)), (5, .own (y5_L2.map (eI .i64))), (6, .lit (.bool y6_L2)), (7, .lit (.int .i64 y7_L2)), (31, .lit (.bool false))]) (by kernel_rfl) (by kernel_rfl) (by kernel_rfl) ?_
      refine Pt.cond_f (p' := [1, 1, 0, 1, 0, 0, 1, 0, 0, 1, 1, 0, 1, 0, 0, 1, 0, 0, 1, 1]) (F' := [(0, .sl (x0.map (eI .i64))), (2, .box [.lit (.int .i64 0), .own []]), (3, .box [.lit (.int .i64 ((x0.length : Int))), .own (y3_1_L2.map (eOw (eI .i64)))]), (4, .lit (.int .i64 y4_L2)), (5, .own (y5_L2.map (eI .i64))), (6, .lit (.bool y6_L2)), (7, .lit (.int .i64 y7_L2))]) (y := (.tmp 31)) (by kernel_rfl) (by kernel_rfl) (by kernel_rfl) (by kernel_rfl) ?_
      refine Pt.skip (p' := [1, 1, 0, 1, 0, 0, 1, 0, 0, 1, 1, 0, 1, 0, 0, 1, 1]) (by kernel_rfl) (by kernel_rfl) ?_
      exact h
  · have h := ite_f h (of_decide_eq_false hc)
    refine AtO.done (p' := [1, 1, 0, 1, 0, 0, 1, 0, 0, 1, 1, 0, 1, 0, 0, 0, 1]) (F' := [(0, .sl (x0.map (eI .i64))), (2, .box [.lit (.int .i64 0), .own []]), (3, .box [.lit (.int .i64 ((x0.length : Int))), .own (y3_1_L2.map (eOw (eI .i64)))]), (4, .lit (.int .i64 y4_L2)), (5, .own (y5_L2.map (eI .i64))), (6, .lit (.bool y6_L2)), (7, .lit (.int .i64 y7_L2)), (20, .lit (.bool false))]) (by kernel_rfl) (by kernel_rfl) (by kernel_rfl) ?_
    refine Pt.cond_f (p' := [1, 1, 0, 1, 0, 0, 1, 0, 0, 1, 1, 0, 1, 0, 0, 0, 1, 1]) (F' := [(0, .sl (x0.map (eI .i64))), (2, .box [.lit (.int .i64 0), .own []]), (3, .box [.lit (.int .i64 ((x0.length : Int))), .own (y3_1_L2.map (eOw (eI .i64)))]), (4, .lit (.int .i64 y4_L2)), (5, .own (y5_L2.map (eI .i64))), (6, .lit (.bool y6_L2))]) (y := (.tmp 20)) (by kernel_rfl) (by kernel_rfl) (by kernel_rfl) (by kernel_rfl) ?_
    refine Pt.exit (p' := [1, 1, 0, 1, 0, 0, 1, 0, 0, 1, 1, 1, 0]) (F' := [(0, .sl (x0.map (eI .i64))), (2, .box [.lit (.int .i64 0), .own []]), (3, .box [.lit (.int .i64 ((x0.length : Int))), .own (y3_1_L2.map (eOw (eI .i64)))]), (4, .lit (.int .i64 y4_L2)), (5, .own (y5_L2.map (eI .i64))), (6, .lit (.bool y6_L2))]) (by kernel_rfl) (by kernel_rfl) (by kernel_rfl) ?_
    refine Pt.reg (by kernel_rfl) ?_
    refine AtO.bool (b := y6_L2) (by kernel_rfl) (by kernel_rfl) (fun hc => ?_) (fun hc => ?_)
    · have h := ite_t h (id hc)
      refine AtO.seg 6 (by kernel_rfl) ?_
      refine AtO.done (p' := [1, 1, 0, 1, 0, 0, 1, 0, 0, 1, 1, 1, 1]) (F' := [(0, .sl (x0.map (eI .i64))), (2, .box [.lit (.int .i64 0), .own []]), (3, .box [.lit (.int .i64 ((x0.length : Int))), .own (y3_1_L2.map (eOw (eI .i64)))]), (4, .lit (.int .i64 y4_L2)), (5, .own (y5_L2.map (eI .i64))), (48, .lit (.bool false))]) (by kernel_rfl) (by kernel_rfl) (by kernel_rfl) ?_
      refine Pt.cond_f (p' := [1, 1, 0, 1, 0, 0, 1, 0, 0, 1, 1, 1, 1, 1]) (F' := [(0, .sl (x0.map (eI .i64))), (2, .box [.lit (.int .i64 0), .own []]), (3, .box [.lit (.int .i64 ((x0.length : Int))), .own (y3_1_L2.map (eOw (eI .i64)))]), (4, .lit (.int .i64 y4_L2))]) (y := (.tmp 48)) (by kernel_rfl) (by kernel_rfl) (by kernel_rfl) (by kernel_rfl) ?_
      refine Pt.skip (p' := [1, 1, 0, 1, 0, 0, 1, 1]) (by kernel_rfl) (by kernel_rfl) ?_
      exact h
    · have h := ite_f h (fls hc)
      refine AtO.seg 3 (by kernel_rfl) ?_
      refine AtO.val (by kernel_rfl) (val_len (x := (.tmp 45)) (t := 38) (et := 3) (d := .alias 5 []) (e := (eI .i64)) (l := y5_L2) (by kernel_rfl) (by kernel_rfl) (elemsOf_ow (by kernel_rfl)) (by kernel_rfl)) ?_
      refine AtO.bool (b := (decide (1 < (y5_L2.length : Int)))) (by kernel_rfl) (by kernel_rfl) (fun hc => ?_) (fun hc => ?_)
      · have h := ite_t h (of_decide_eq_true hc)
        refine AtO.seg 1 (by kernel_rfl) ?_
        refine AtO.done (p' := [1, 1, 0, 1, 0, 0, 1, 0, 0, 1, 1, 1, 1]) (F' := [(0, .sl (x0.map (eI .i64))), (2, .box [.lit (.int .i64 0), .own []]), (3, .box [.lit (.int .i64 ((x0.length : Int))), .own (y3_1_L2.map (eOw (eI .i64)))]), (4, .lit (.int .i64 y4_L2)), (5, .own (y5_L2.map (eI .i64))), (48, .lit (.bool true))]) (by kernel_rfl) (by kernel_rfl) (by kernel_rfl) ?_
        refine Pt.cond_t (p' := [1, 1, 0, 1, 0, 0, 1, 0, 0, 1, 1, 1, 1, 0]) (F' := [(0, .sl (x0.map (eI .i64))), (2, .box [.lit (.int .i64 0), .own []]), (3, .box [.lit (.int .i64 ((x0.length : Int))), .own (y3_1_L2.map (eOw (eI .i64)))]), (4, .lit (.int .i64 y4_L2)), (5, .own (y5_L2.map (eI .i64)))]) (y := (.tmp 48)) (by kernel_rfl) (by kernel_rfl) (by kernel_rfl) (by kernel_rfl) ?_
        refine Pt.reg (by kernel_rfl) ?_
        obtain ⟨h6, h⟩ := h
        refine AtO.seg 4 (by kernel_rfl) ?_
        refine AtO.op (by kernel_rfl) (app1 (x := (.tmp 50)) (y := (.tmp 52)) (t := 29) (u := 29) (et := 38) (z := .own []) (k := 1) (c := 24) (e := (eOw (eI .i64))) (l := y3_1_L2) (m := [y5_L2]) (by kernel_rfl) (by kernel_rfl) (by kernel_rfl) (by kernel_rfl) (by kernel_rfl) (by kernel_rfl) (by kernel_rfl) (by kernel_rfl) (by kernel_rfl) (by kernel_rfl) (by kernel_rfl) (fun _ => rfl) h6) ?_
        refine AtO.seg 2 (by kernel_rfl) ?_
        refine AtO.done (p' := [1, 1, 0, 1, 0, 0, 1, 1]) (F' := [(0, .sl (x0.map (eI .i64))), (2, .box [.lit (.int .i64 0), .own []]), (3, .box [.lit (.int .i64 ((x0.length : Int))), .own (((y3_1_L2 ++ [y5_L2])).map (eOw (eI .i64)))]), (4, .lit (.int .i64 y4_L2))]) (by kernel_rfl) (by kernel_rfl) (by kernel_rfl) ?_
        exact h
      · have h := ite_f h (of_decide_eq_false hc)
        refine AtO.seg 1 (by kernel_rfl) ?_
        refine AtO.done (p' := [1, 1, 0, 1, 0, 0, 1, 0, 0, 1, 1, 1, 1]) (F' := [(0, .sl (x0.map (eI .i64))), (2, .box [.lit (.int .i64 0), .own []]), (3, .box [.lit (.int .i64 ((x0.length : Int))), .own (y3_1_L2.map (eOw (eI .i64)))]), (4, .lit (.int .i64 y4_L2)), (5, .own (y5_L2.map (eI .i64))), (48, .lit (.bool false))]) (by kernel_rfl) (by kernel_rfl) (by kernel_rfl) ?_
        refine Pt.cond_f (p' := [1, 1, 0, 1, 0, 0, 1, 0, 0, 1, 1, 1, 1, 1]) (F' := [(0, .sl (x0.map (eI .i64))), (2, .box [.lit (.int .i64 0), .own []]), (3, .box [.lit (.int .i64 ((x0.length : Int))), .own (y3_1_L2.map (eOw (eI .i64)))]), (4, .lit (.int .i64 y4_L2))]) (y := (.tmp 48)) (by kernel_rfl) (by kernel_rfl) (by kernel_rfl) (by kernel_rfl) ?_
        refine Pt.skip (p' := [1, 1, 0, 1, 0, 0, 1, 1]) (by kernel_rfl) (by kernel_rfl) ?_
        exact h
theorem L3_step (x0 : List Int) (y3_1_L3 : List (List Int)) (y4_L3 : Int) (y5_L3 : List Int) (y6_L3 : Bool) (y7_L2 : Int) (φ : api_Partition → Prop) (h :
    drossref08_group.L2 x0 y3_1_L3 y4_L3 y5_L3 y6_L3 ((IntKind.wrap .i64 (y7_L2 + 1))) φ) : L3 x0 y3_1_L3 y4_L3 y5_L3 y6_L3 y7_L2 φ := by
  unfold L3
  refine Pt.reg (by kernel_rfl) ?_
  refine AtO.seg 3 (by kernel_rfl) ?_
  refine AtO.done (p' := [1, 1, 0, 1, 0, 0, 1, 0, 0, 1, 1, 0, 1, 0]) (F' := [(0, .sl (x0.map (eI .i64))), (2, .box [.lit (.int .i64 0), .own []]), (3, .box [.lit (.int .i64 ((x0.length : Int))), .own (y3_1_L3.map (eOw (eI .i64)))]), (4, .lit (.int .i64 y4_L3)), (5, .own (y5_L3.map (eI .i64))), (6, .lit (.bool y6_L3)), (7, .lit (.int .i64 ((IntKind.wrap .i64 (y7_L2 + 1)))))]) (by kernel_rfl) (by kernel_rfl) (by kernel_rfl) ?_
  exact h
theorem L4_step (x0 : List Int) (y3_1_L4 : List (List Int)) (y4_L2 : Int) (φ : api_Partition → Prop) (h :
    drossref08_group.L1 x0 y3_1_L4 ((IntKind.wrap .i64 (y4_L2 + 1))) φ) : L4 x0 y3_1_L4 y4_L2 φ := by
  unfold L4
  refine Pt.reg (by kernel_rfl) ?_
  refine AtO.seg 3 (by kernel_rfl) ?_
  refine AtO.done (p' := [1, 1, 0, 1, 0]) (F' := [(0, .sl (x0.map (eI .i64))), (2, .box [.lit (.int .i64 0), .own []]), (3, .box [.lit (.int .i64 ((x0.length : Int))), .own (y3_1_L4.map (eOw (eI .i64)))]), (4, .lit (.int .i64 ((IntKind.wrap .i64 (y4_L2 + 1)))))]) (by kernel_rfl) (by kernel_rfl) (by kernel_rfl) ?_
  exact h
theorem enter (x0 : List Int) (φ : api_Partition → Prop) (h :
    drossref08_group.L1 x0 ([]) 0 φ) : ∃ r, φ r ∧ C x0 r := by
  refine Ret.of_at (E := env) (f := 37) (fd := Tryd.f37) (body := B) (p := [0]) (V := W) (F := [(0, .sl (x0.map (eI .i64))), (2, .undef), (3, .undef), (4, .undef), (5, .undef), (6, .undef), (7, .undef), (14, .undef), (20, .undef), (31, .undef), (48, .undef)]) (res := res) (φ := φ) (ds := [.sl (x0.map (eI .i64))]) (by kernel_rfl) (by kernel_rfl) (by kernel_rfl) ⟨Nat.le_of_ble_eq_true (by kernel_rfl), Nat.le_of_ble_eq_true (by kernel_rfl)⟩ (by kernel_rfl) (by kernel_rfl) (by kernel_rfl) ?_
  refine Pt.reg (by kernel_rfl) ?_
  refine AtO.seg 1 (by kernel_rfl) ?_
  refine AtO.done (p' := [1, 0]) (F' := [(0, .sl (x0.map (eI .i64))), (2, .box [.lit (.int .i64 0), .own []])]) (by kernel_rfl) (by kernel_rfl) (by kernel_rfl) ?_
  refine Pt.reg (by kernel_rfl) ?_
  refine AtO.seg 1 (by kernel_rfl) ?_
  refine AtO.val (by kernel_rfl) (val_len (x := (.tmp 8)) (t := 38) (et := 3) (d := .sl (x0.map (eI .i64))) (e := (eI .i64)) (l := x0) (by kernel_rfl) (by kernel_rfl) elemsOf_sl (by kernel_rfl)) ?_
  refine AtO.seg 3 (by kernel_rfl) ?_
  refine AtO.done (p' := [1, 1, 0, 0]) (F' := [(0, .sl (x0.map (eI .i64))), (2, .box [.lit (.int .i64 0), .own []]), (3, .box [.lit (.int .i64 ((x0.length : Int))), .own []])]) (by kernel_rfl) (by kernel_rfl) (by kernel_rfl) ?_
  refine Pt.reg (by kernel_rfl) ?_
  refine AtO.seg 1 (by kernel_rfl) ?_
  refine AtO.done (p' := [1, 1, 0, 1, 0]) (F' := [(0, .sl (x0.map (eI .i64))), (2, .box [.lit (.int .i64 0), .own []]), (3, .box [.lit (.int .i64 ((x0.length : Int))), .own []]), (4, .lit (.int .i64 0))]) (by kernel_rfl) (by kernel_rfl) (by kernel_rfl) ?_
  exact h
end drossref08_group
end Go.Own

namespace Go.Own
open Go.Proofs D
set_option maxRecDepth 100000
set_option maxHeartbeats 4000000
namespace drossref08_From
noncomputable def B : Code := (Tryd.f19.body).getD .skip
def W : List Nat := [0, 2, 3, 4, 8]
def res (r : api_Partition) : D × List D := (.agg [.lit (.int .i64 r.Rows), .own (r.Classes.map (eOw (eI .i64)))], [])
def C (x0 : List Int) (r : api_Partition) : Prop := Ret env 19 [.sl (x0.map (eI .u8))] (res r).1 (res r).2
def L1 (x0 : List Int) (y3_L1 : List Int) (y4_L1 : Int) (φ : api_Partition → Prop) : Prop := Pt env 19 W B [1, 1, 0, 1, 0] [(0, .sl (x0.map (eI .u8))), (2, .box [.lit (.int .i64 0), .own []]), (3, .own (y3_L1.map (eI .i64))), (4, .lit (.int .i64 y4_L1))] (Lv env 19 Tryd.f19 1 res φ)
theorem L1_step (x0 : List Int) (y3_L1 : List Int) (y4_L1 : Int) (φ : api_Partition → Prop) (h :
    (if y4_L1 < (x0.length : Int) then
      ∃ a1, lget x0 y4_L1 = some a1 ∧
      (y3_L1.length + 1) * 8 ≤ 140737488355328 ∧
      drossref08_From.L1 x0 ((y3_L1 ++ [(IntKind.wrap .i64 a1)])) ((IntKind.wrap .i64 (y4_L1 + 1))) φ
    else
      ∃ r4 : api_Partition, drossref08_group.C y3_L1 r4 ∧
      φ r4)) : L1 x0 y3_L1 y4_L1 φ := by
  unfold L1
  refine Pt.loop (p' := [1, 1, 0, 1, 0, 0, 0, 0]) (by kernel_rfl) (by kernel_rfl) ?_
  refine Pt.reg (by kernel_rfl) ?_
  refine AtO.seg 2 (by kernel_rfl) ?_
  refine AtO.val (by kernel_rfl) (val_len (x := (.tmp 6)) (t := 40) (et := 5) (d := .sl (x0.map (eI .u8))) (e := (eI .u8)) (l := x0) (by kernel_rfl) (by kernel_rfl) elemsOf_sl (by kernel_rfl)) ?_
  refine AtO.bool (b := (decide (y4_L1 < (x0.length : Int)))) (by kernel_rfl) (by kernel_rfl) (fun hc => ?_) (fun hc => ?_)
  · have h := ite_t h (of_decide_eq_true hc)
    refine AtO.done (p' := [1, 1, 0, 1, 0, 0, 0, 1]) (F' := [(0, .sl (x0.map (eI .u8))), (2, .box [.lit (.int .i64 0), .own []]), (3, .own (y3_L1.map (eI .i64))), (4, .lit (.int .i64 y4_L1)), (8, .lit (.bool true))]) (by kernel_rfl) (by kernel_rfl) (by kernel_rfl) ?_
    refine Pt.cond_t (p' := [1, 1, 0, 1, 0, 0, 0, 1, 0]) (F' := [(0, .sl (x0.map (eI .u8))), (2, .box [.lit (.int .i64 0), .own []]), (3, .own (y3_L1.map (eI .i64))), (4, .lit (.int .i64 y4_L1))]) (y := (.tmp 8)) (by kernel_rfl) (by kernel_rfl) (by kernel_rfl) (by kernel_rfl) ?_
    refine Pt.skip (p' := [1, 1, 0, 1, 0, 0, 1, 0, 0]) (by kernel_rfl) (by kernel_rfl) ?_
    refine Pt.reg (by kernel_rfl) ?_
    obtain ⟨a1, h2, h⟩ := h
    refine AtO.seg 3 (by kernel_rfl) ?_
    refine AtO.val (by kernel_rfl) (val_idx_sl (t := 40) (x := (.tmp 12)) (ix := (.tmp 13)) (et := 5) (k := 1) (e := (eI .u8)) (l := x0) (i := y4_L1) (q := .i64) (a := a1) (by kernel_rfl) (by kernel_rfl) (by kernel_rfl) (by kernel_rfl) (by kernel_rfl) h2 (by kernel_rfl)) ?_
    obtain ⟨h3, h⟩ := h
    refine AtO.seg 3 (by kernel_rfl) ?_
    refine AtO.op (by kernel_rfl) (app1 (x := (.tmp 11)) (y := (.tmp 17)) (t := 38) (u := 38) (et := 3) (z := .lit (.int .i64 0)) (k := 1) (c := 8) (e := (eI .i64)) (l := y3_L1) (m := [(IntKind.wrap .i64 a1)]) (by kernel_rfl) (by kernel_rfl) (by kernel_rfl) (by kernel_rfl) (by kernel_rfl) (by kernel_rfl) (by kernel_rfl) (by kernel_rfl) (by kernel_rfl) (by kernel_rfl) (by kernel_rfl) (fun _ => rfl) h3) ?_
    refine AtO.seg 1 (by kernel_rfl) ?_
    refine AtO.done (p' := [1, 1, 0, 1, 0, 0, 1, 1]) (F' := [(0, .sl (x0.map (eI .u8))), (2, .box [.lit (.int .i64 0), .own []]), (3, .own (((y3_L1 ++ [(IntKind.wrap .i64 a1)])).map (eI .i64))), (4, .lit (.int .i64 y4_L1))]) (by kernel_rfl) (by kernel_rfl) (by kernel_rfl) ?_
    refine Pt.reg (by kernel_rfl) ?_
    refine AtO.seg 3 (by kernel_rfl) ?_
    refine AtO.done (p' := [1, 1, 0, 1, 0]) (F' := [(0, .sl (x0.map (eI .u8))), (2, .box [.lit (.int .i64 0), .own []]), (3, .own (((y3_L1 ++ [(IntKind.wrap .i64 a1)])).map (eI .i64))), (4, .lit (.int .i64 ((IntKind.wrap .i64 (y4_L1 + 1)))))]) (by kernel_rfl) (by kernel_rfl) (by kernel_rfl) ?_
    exact h
  · have h := ite_f h (of_decide_eq_false hc)
    refine AtO.done (p' := [1, 1, 0, 1, 0, 0, 0, 1]) (F' := [(0, .sl (x0.map (eI .u8))), (2, .box [.lit (.int .i64 0), .own []]), (3, .own (y3_L1.map (eI .i64))), (4, .lit (.int .i64 y4_L1)), (8, .lit (.bool false))]) (by kernel_rfl) (by kernel_rfl) (by kernel_rfl) ?_
    refine Pt.cond_f (p' := [1, 1, 0, 1, 0, 0, 0, 1, 1]) (F' := [(2, .box [.lit (.int .i64 0), .own []]), (3, .own (y3_L1.map (eI .i64)))]) (y := (.tmp 8)) (by kernel_rfl) (by kernel_rfl) (by kernel_rfl) (by kernel_rfl) ?_
    refine Pt.exit (p' := [1, 1, 1, 0]) (F' := [(2, .box [.lit (.int .i64 0), .own []]), (3, .own (y3_L1.map (eI .i64)))]) (by kernel_rfl) (by kernel_rfl) (by kernel_rfl) ?_
    refine Pt.reg (by kernel_rfl) ?_
    obtain ⟨r4, h5, h⟩ := h
    refine AtO.seg 1 (by kernel_rfl) ?_
    refine AtO.call0 (x := (.func 37)) (g := 37) (caps := []) (agl := [.opn (.tmp 19)]) (ds := [.sl (y3_L1.map (eI .i64))]) (r := .agg [.lit (.int .i64 r4.Rows), .own (r4.Classes.map (eOw (eI .i64)))]) (r' := .agg [.lit (.int .i64 r4.Rows), .own (r4.Classes.map (eOw (eI .i64)))]) (ms := [none]) (by kernel_rfl) (by kernel_rfl) (by kernel_rfl) (by kernel_rfl) (by kernel_rfl) (by kernel_rfl) (pass_snap (a := .opn (.tmp 19)) (d0 := .alias 3 []) (d := .sl (y3_L1.map (eI .i64))) (by kernel_rfl) (by kernel_rfl) (snap_ow (s := 3) (ps := []) (l := y3_L1) (e := (eI .i64)) (e' := (eI .i64)) (fun _ => rfl) (by kernel_rfl)) pass_nil) h5 (flat_agg (flts_cons rfl (flts_cons (flat_ow (e := (eOw (eI .i64))) (Flt.ow (fun _ => rfl))) flts_nil))) (by kernel_rfl) ?_
    refine AtO.seg 1 (by kernel_rfl) ?_
    refine AtO.done (p' := [1, 1, 1, 1]) (F' := [(2, .box [.lit (.int .i64 r4.Rows), .own (r4.Classes.map (eOw (eI .i64)))])]) (by kernel_rfl) (by kernel_rfl) (by kernel_rfl) ?_
    exact Pt.ret r4 (by kernel_rfl) (by kernel_rfl) h
theorem enter (x0 : List Int) (φ : api_Partition → Prop) (h :
    drossref08_From.L1 x0 ([]) 0 φ) : ∃ r, φ r ∧ C x0 r := by
  refine Ret.of_at (E := env) (f := 19) (fd := Tryd.f19) (body := B) (p := [0]) (V := W) (F := [(0, .sl (x0.map (eI .u8))), (2, .undef), (3, .undef), (4, .undef), (8, .undef)]) (res := res) (φ := φ) (ds := [.sl (x0.map (eI .u8))]) (by kernel_rfl) (by kernel_rfl) (by kernel_rfl) ⟨Nat.le_of_ble_eq_true (by kernel_rfl), Nat.le_of_ble_eq_true (by kernel_rfl)⟩ (by kernel_rfl) (by kernel_rfl) (by kernel_rfl) ?_
  refine Pt.reg (by kernel_rfl) ?_
  refine AtO.seg 1 (by kernel_rfl) ?_
  refine AtO.done (p' := [1, 0]) (F' := [(0, .sl (x0.map (eI .u8))), (2, .box [.lit (.int .i64 0), .own []])]) (by kernel_rfl) (by kernel_rfl) (by kernel_rfl) ?_
  refine Pt.reg (by kernel_rfl) ?_
  refine AtO.seg 1 (by kernel_rfl) ?_
  refine AtO.done (p' := [1, 1, 0, 0]) (F' := [(0, .sl (x0.map (eI .u8))), (2, .box [.lit (.int .i64 0), .own []]), (3, .own [])]) (by kernel_rfl) (by kernel_rfl) (by kernel_rfl) ?_
  refine Pt.reg (by kernel_rfl) ?_
  refine AtO.seg 1 (by kernel_rfl) ?_
  refine AtO.done (p' := [1, 1, 0, 1, 0]) (F' := [(0, .sl (x0.map (eI .u8))), (2, .box [.lit (.int .i64 0), .own []]), (3, .own []), (4, .lit (.int .i64 0))]) (by kernel_rfl) (by kernel_rfl) (by kernel_rfl) ?_
  exact h
end drossref08_From
end Go.Own

namespace Go.Own
open Go.Proofs D
set_option maxRecDepth 100000
set_option maxHeartbeats 4000000
namespace partition_groups_2_int_1
noncomputable def B : Code := (Tryd.f64.body).getD .skip
def W : List Nat := [0, 2]
def res (r : Bool) : D × List D := (.lit (.bool r), [])
def C (x0 : List Int) (r : Bool) : Prop := Ret env 64 [.sl (x0.map (eI .i64))] (res r).1 (res r).2
theorem enter (x0 : List Int) (φ : Bool → Prop) (h :
    φ ((decide ((x0.length : Int) < 2)))) : ∃ r, φ r ∧ C x0 r := by
  refine Ret.of_at (E := env) (f := 64) (fd := Tryd.f64) (body := B) (p := [0]) (V := W) (F := [(0, .sl (x0.map (eI .i64))), (2, .undef)]) (res := res) (φ := φ) (ds := [.sl (x0.map (eI .i64))]) (by kernel_rfl) (by kernel_rfl) (by kernel_rfl) ⟨Nat.le_of_ble_eq_true (by kernel_rfl), Nat.le_of_ble_eq_true (by kernel_rfl)⟩ (by kernel_rfl) (by kernel_rfl) (by kernel_rfl) ?_
  refine Pt.reg (by kernel_rfl) ?_
  refine AtO.seg 1 (by kernel_rfl) ?_
  refine AtO.done (p' := [1, 0]) (F' := [(0, .sl (x0.map (eI .i64)))]) (by kernel_rfl) (by kernel_rfl) (by kernel_rfl) ?_
  refine Pt.reg (by kernel_rfl) ?_
  refine AtO.seg 1 (by kernel_rfl) ?_
  refine AtO.val (by kernel_rfl) (val_len (x := (.tmp 3)) (t := 38) (et := 3) (d := .sl (x0.map (eI .i64))) (e := (eI .i64)) (l := x0) (by kernel_rfl) (by kernel_rfl) elemsOf_sl (by kernel_rfl)) ?_
  refine AtO.seg 2 (by kernel_rfl) ?_
  refine AtO.done (p' := [1, 1]) (F' := [(2, .lit (.bool ((decide ((x0.length : Int) < 2)))))]) (by kernel_rfl) (by kernel_rfl) (by kernel_rfl) ?_
  exact Pt.ret ((decide ((x0.length : Int) < 2))) (by kernel_rfl) (by kernel_rfl) h
end partition_groups_2_int_1
end Go.Own

namespace Go.Own
open Go.Proofs D
set_option maxRecDepth 100000
set_option maxHeartbeats 4000000
namespace slices_IndexFunc_ssint_sint_v1
noncomputable def B : Code := (Tryd.f66.body).getD .skip
def W : List Nat := [0, 1, 4, 5, 7, 8, 9, 16]
def res (r : Int) : D × List D := (.lit (.int .i64 r), [])
def C (x0 : List (List Int)) (r : Int) : Prop := Ret env 66 [.sl (x0.map (eSl (eI .i64))), .fn 64 []] (res r).1 (res r).2
def L1 (x0 : List (List Int)) (y8_L1 : Int) (φ : Int → Prop) : Prop := Pt env 66 W B [1, 0, 1, 0] [(0, .sl (x0.map (eSl (eI .i64)))), (1, .fn 64 []), (7, .lit (.int .i64 ((x0.length : Int)))), (8, .lit (.int .i64 y8_L1))] (Lv env 66 Tryd.f66 2 res φ)
theorem L1_step (x0 : List (List Int)) (y8_L1 : Int) (φ : Int → Prop) (h :
    (if y8_L1 < (x0.length : Int) then
      ∃ a1, lget x0 y8_L1 = some a1 ∧
      ∃ r3 : Bool, partition_groups_2_int_1.C a1 r3 ∧
      (if r3 = true then
        φ y8_L1
      else
        slices_IndexFunc_ssint_sint_v1.L1 x0 ((IntKind.wrap .i64 (y8_L1 + 1))) φ)
    else
      φ ((-1)))) : L1 x0 y8_L1 φ := by
  unfold L1
  refine Pt.loop (p' := [1, 0, 1, 0, 0, 0]) (by kernel_rfl) (by kernel_rfl) ?_
  refine Pt.reg (by kernel_rfl) ?_
  refine AtO.bool (b := (decide (y8_L1 < (x0.length : Int)))) (by kernel_rfl) (by kernel_rfl) (fun hc => ?_) (fun hc => ?_)
  · have h := ite_t h (of_decide_eq_true hc)
    refine AtO.done (p' := [1, 0, 1, 0, 0, 1, 0]) (F' := [(0, .sl (x0.map (eSl (eI .i64)))), (1, .fn 64 []), (7, .lit (.int .i64 ((x0.length : Int)))), (8, .lit (.int .i64 y8_L1)), (9, .lit (.bool true))]) (by kernel_rfl) (by kernel_rfl) (by kernel_rfl) ?_
    refine Pt.cond_t (p' := [1, 0, 1, 0, 0, 1, 0, 0]) (F' := [(0, .sl (x0.map (eSl (eI .i64)))), (1, .fn 64 []), (7, .lit (.int .i64 ((x0.length : Int)))), (8, .lit (.int .i64 y8_L1))]) (y := (.tmp 9)) (by kernel_rfl) (by kernel_rfl) (by kernel_rfl) (by kernel_rfl) ?_
    refine Pt.skip (p' := [1, 0, 1, 0, 0, 1, 1, 0, 0, 0]) (by kernel_rfl) (by kernel_rfl) ?_
    refine Pt.reg (by kernel_rfl) ?_
    refine AtO.seg 2 (by kernel_rfl) ?_
    refine AtO.done (p' := [1, 0, 1, 0, 0, 1, 1, 0, 0, 1, 0]) (F' := [(0, .sl (x0.map (eSl (eI .i64)))), (1, .fn 64 []), (5, .lit (.int .i64 y8_L1)), (7, .lit (.int .i64 ((x0.length : Int)))), (8, .lit (.int .i64 y8_L1))]) (by kernel_rfl) (by kernel_rfl) (by kernel_rfl) ?_
    refine Pt.reg (by kernel_rfl) ?_
    obtain ⟨a1, h2, h⟩ := h
    refine AtO.seg 3 (by kernel_rfl) ?_
    refine AtO.val (by kernel_rfl) (val_idx_sl (t := 29) (x := (.tmp 12)) (ix := (.tmp 13)) (et := 38) (k := 1) (e := (eSl (eI .i64))) (l := x0) (i := y8_L1) (q := .i64) (a := a1) (by kernel_rfl) (by kernel_rfl) (by kernel_rfl) (by kernel_rfl) (by kernel_rfl) h2 (by kernel_rfl)) ?_
    obtain ⟨r3, h4, h⟩ := h
    refine AtO.seg 1 (by kernel_rfl) ?_
    refine AtO.call0 (x := (.tmp 11)) (g := 64) (caps := []) (agl := [.opn (.tmp 15)]) (ds := [.sl (a1.map (eI .i64))]) (r := .lit (.bool r3)) (r' := .lit (.bool r3)) (ms := [none]) (by kernel_rfl) (by kernel_rfl) (by kernel_rfl) (by kernel_rfl) (by kernel_rfl) (by kernel_rfl) (pass_snap (a := .opn (.tmp 15)) (d0 := .sl (a1.map (eI .i64))) (d := .sl (a1.map (eI .i64))) (by kernel_rfl) (by kernel_rfl) (by kernel_rfl) pass_nil) h4 rfl (by kernel_rfl) ?_
    refine AtO.putb (fun hc => ?_) (fun hc => ?_)
    · have h := ite_t h (id hc)
      refine AtO.done (p' := [1, 0, 1, 0, 0, 1, 1, 0, 0, 1, 1]) (F' := [(0, .sl (x0.map (eSl (eI .i64)))), (1, .fn 64 []), (5, .lit (.int .i64 y8_L1)), (7, .lit (.int .i64 ((x0.length : Int)))), (8, .lit (.int .i64 y8_L1)), (16, .lit (.bool true))]) (by kernel_rfl) (by kernel_rfl) (by kernel_rfl) ?_
      refine Pt.cond_t (p' := [1, 0, 1, 0, 0, 1, 1, 0, 0, 1, 1, 0, 0]) (F' := [(5, .lit (.int .i64 y8_L1))]) (y := (.tmp 16)) (by kernel_rfl) (by kernel_rfl) (by kernel_rfl) (by kernel_rfl) ?_
      refine Pt.reg (by kernel_rfl) ?_
      refine AtO.seg 2 (by kernel_rfl) ?_
      refine AtO.done (p' := [1, 0, 1, 0, 0, 1, 1, 0, 0, 1, 1, 0, 1]) (F' := [(4, .lit (.int .i64 y8_L1))]) (by kernel_rfl) (by kernel_rfl) (by kernel_rfl) ?_
      exact Pt.ret y8_L1 (by kernel_rfl) (by kernel_rfl) h
    · have h := ite_f h (fls hc)
      refine AtO.done (p' := [1, 0, 1, 0, 0, 1, 1, 0, 0, 1, 1]) (F' := [(0, .sl (x0.map (eSl (eI .i64)))), (1, .fn 64 []), (5, .lit (.int .i64 y8_L1)), (7, .lit (.int .i64 ((x0.length : Int)))), (8, .lit (.int .i64 y8_L1)), (16, .lit (.bool false))]) (by kernel_rfl) (by kernel_rfl) (by kernel_rfl) ?_
      refine Pt.cond_f (p' := [1, 0, 1, 0, 0, 1, 1, 0, 0, 1, 1, 1]) (F' := [(0, .sl (x0.map (eSl (eI .i64)))), (1, .fn 64 []), (7, .lit (.int .i64 ((x0.length : Int)))), (8, .lit (.int .i64 y8_L1))]) (y := (.tmp 16)) (by kernel_rfl) (by kernel_rfl) (by kernel_rfl) (by kernel_rfl) ?_
      refine Pt.skip (p' := [1, 0, 1, 0, 0, 1, 1, 1]) (by kernel_rfl) (by kernel_rfl) ?_
      refine Pt.reg (by kernel_rfl) ?_
      refine AtO.seg 2 (by kernel_rfl) ?_
      refine AtO.done (p' := [1, 0, 1, 0]) (F' := [(0, .sl (x0.map (eSl (eI .i64)))), (1, .fn 64 []), (7, .lit (.int .i64 ((x0.length : Int)))), (8, .lit (.int .i64 ((IntKind.wrap .i64 (y8_L1 + 1)))))]) (by kernel_rfl) (by kernel_rfl) (by kernel_rfl) ?_
      exact h
  · have h := ite_f h (of_decide_eq_false hc)
    refine AtO.done (p' := [1, 0, 1, 0, 0, 1, 0]) (F' := [(0, .sl (x0.map (eSl (eI .i64)))), (1, .fn 64 []), (7, .lit (.int .i64 ((x0.length : Int)))), (8, .lit (.int .i64 y8_L1)), (9, .lit (.bool false))]) (by kernel_rfl) (by kernel_rfl) (by kernel_rfl) ?_
    refine Pt.cond_f (p' := [1, 0, 1, 0, 0, 1, 0, 1]) (F' := []) (y := (.tmp 9)) (by kernel_rfl) (by kernel_rfl) (by kernel_rfl) (by kernel_rfl) ?_
    refine Pt.exit (p' := [1, 1, 0]) (F' := []) (by kernel_rfl) (by kernel_rfl) (by kernel_rfl) ?_
    refine Pt.reg (by kernel_rfl) ?_
    refine AtO.seg 1 (by kernel_rfl) ?_
    refine AtO.done (p' := [1, 1, 1]) (F' := [(4, .lit (.int .i64 ((-1))))]) (by kernel_rfl) (by kernel_rfl) (by kernel_rfl) ?_
    exact Pt.ret ((-1)) (by kernel_rfl) (by kernel_rfl) h
theorem enter (x0 : List (List Int)) (φ : Int → Prop) (h :
    slices_IndexFunc_ssint_sint_v1.L1 x0 0 φ) : ∃ r, φ r ∧ C x0 r := by
  refine Ret.of_at (E := env) (f := 66) (fd := Tryd.f66) (body := B) (p := [0]) (V := W) (F := [(0, .sl (x0.map (eSl (eI .i64)))), (1, .fn 64 []), (4, .undef), (5, .undef), (7, .undef), (8, .undef), (9, .undef), (16, .undef)]) (res := res) (φ := φ) (ds := [.sl (x0.map (eSl (eI .i64))), .fn 64 []]) (by kernel_rfl) (by kernel_rfl) (by kernel_rfl) ⟨Nat.le_of_ble_eq_true (by kernel_rfl), Nat.le_of_ble_eq_true (by kernel_rfl)⟩ (by kernel_rfl) (by kernel_rfl) (by kernel_rfl) ?_
  refine Pt.reg (by kernel_rfl) ?_
  refine AtO.seg 1 (by kernel_rfl) ?_
  refine AtO.done (p' := [1, 0, 0]) (F' := [(0, .sl (x0.map (eSl (eI .i64)))), (1, .fn 64 [])]) (by kernel_rfl) (by kernel_rfl) (by kernel_rfl) ?_
  refine Pt.reg (by kernel_rfl) ?_
  refine AtO.seg 1 (by kernel_rfl) ?_
  refine AtO.val (by kernel_rfl) (val_len (x := (.tmp 6)) (t := 29) (et := 38) (d := .sl (x0.map (eSl (eI .i64)))) (e := (eSl (eI .i64))) (l := x0) (by kernel_rfl) (by kernel_rfl) elemsOf_sl (by kernel_rfl)) ?_
  refine AtO.seg 1 (by kernel_rfl) ?_
  refine AtO.done (p' := [1, 0, 1, 0]) (F' := [(0, .sl (x0.map (eSl (eI .i64)))), (1, .fn 64 []), (7, .lit (.int .i64 ((x0.length : Int)))), (8, .lit (.int .i64 0))]) (by kernel_rfl) (by kernel_rfl) (by kernel_rfl) ?_
  exact h
end slices_IndexFunc_ssint_sint_v1
end Go.Own

namespace Go.Own
open Go.Proofs D
set_option maxRecDepth 100000
set_option maxHeartbeats 4000000
namespace slices_DeleteFunc_ssint_sint_v1
noncomputable def B : Code := (Tryd.f63.body).getD .skip
def W : List Nat := [0, 1, 4, 5, 6, 7, 12, 19, 29]
def res (r : (List (List Int) × Bool)) : D × List D := ((sown (r.1.map (eSl (eI .i64))) r.2), [])
def C (k0_0 : List (List Int)) (r : (List (List Int) × Bool)) : Prop := Ret env 63 [.own (k0_0.map (eSl (eI .i64))), .fn 64 []] (res r).1 (res r).2
def L1 (k0_0 : List (List Int)) (r1 : Int) (y6_L1 : Int) (φ : (List (List Int) × Bool) → Prop) : Prop := Pt env 63 W B [1, 1, 1, 0, 1, 0] [(0, .own (k0_0.map (eSl (eI .i64)))), (1, .fn 64 []), (5, .lit (.int .i64 r1)), (6, .lit (.int .i64 y6_L1))] (Lv env 63 Tryd.f63 2 res φ)
def L2 (k0_0 : List (List Int)) (r1 : Int) (y6_L1 : Int) (φ : (List (List Int) × Bool) → Prop) : Prop := Pt env 63 W B [1, 1, 1, 0, 1, 0, 0, 1, 1] [(0, .own (k0_0.map (eSl (eI .i64)))), (1, .fn 64 []), (5, .lit (.int .i64 r1)), (6, .lit (.int .i64 y6_L1))] (Lv env 63 Tryd.f63 2 res φ)
theorem L1_step (k0_0 : List (List Int)) (r1 : Int) (y6_L1 : Int) (φ : (List (List Int) × Bool) → Prop) (h :
    (if y6_L1 < (k0_0.length : Int) then
      ∃ a3, lget k0_0 y6_L1 = some a3 ∧
      ∃ r5 : Bool, partition_groups_2_int_1.C a3 r5 ∧
      (if r5 = true then
        slices_DeleteFunc_ssint_sint_v1.L2 k0_0 r1 y6_L1 φ
      else
        ∃ a7, lget k0_0 r1 = some a7 ∧
        slices_DeleteFunc_ssint_sint_v1.L2 ((lset k0_0 r1 a3)) ((IntKind.wrap .i64 (r1 + 1))) y6_L1 φ)
    else
      0 ≤ r1 ∧
      (r1.toNat ≤ k0_0.length ∧ k0_0.length ≤ k0_0.length) ∧
      r1.toNat + (k0_0.length - r1.toNat) ≤ k0_0.length ∧
      0 ≤ r1 ∧
      r1.toNat + (k0_0.length - r1.toNat) ≤ k0_0.length ∧
      r1.toNat ≤ k0_0.length ∧
      (r1.toNat + (k0_0.length - r1.toNat) ≤ k0_0.length ∧ r1.toNat ≤ k0_0.length ∧ r1.toNat ≤ r1.toNat) ∧
      φ (⟨(List.take r1.toNat k0_0), (!(((List.take r1.toNat k0_0)).isEmpty))⟩))) : L1 k0_0 r1 y6_L1 φ := by
  unfold L1
  refine Pt.loop (p' := [1, 1, 1, 0, 1, 0, 0, 0, 0]) (by kernel_rfl) (by kernel_rfl) ?_
  refine Pt.reg (by kernel_rfl) ?_
  refine AtO.seg 2 (by kernel_rfl) ?_
  refine AtO.val (by kernel_rfl) (val_len (x := (.tmp 17)) (t := 29) (et := 38) (d := .alias 0 []) (e := (eSl (eI .i64))) (l := k0_0) (by kernel_rfl) (by kernel_rfl) (elemsOf_ow (by kernel_rfl)) (by kernel_rfl)) ?_
  refine AtO.bool (b := (decide (y6_L1 < (k0_0.length : Int)))) (by kernel_rfl) (by kernel_rfl) (fun hc => ?_) (fun hc => ?_)
  · have h := ite_t h (of_decide_eq_true hc)
    refine AtO.done (p' := [1, 1, 1, 0, 1, 0, 0, 0, 1]) (F' := [(0, .own (k0_0.map (eSl (eI .i64)))), (1, .fn 64 []), (5, .lit (.int .i64 r1)), (6, .lit (.int .i64 y6_L1)), (19, .lit (.bool true))]) (by kernel_rfl) (by kernel_rfl) (by kernel_rfl) ?_
    refine Pt.cond_t (p' := [1, 1, 1, 0, 1, 0, 0, 0, 1, 0]) (F' := [(0, .own (k0_0.map (eSl (eI .i64)))), (1, .fn 64 []), (5, .lit (.int .i64 r1)), (6, .lit (.int .i64 y6_L1))]) (y := (.tmp 19)) (by kernel_rfl) (by kernel_rfl) (by kernel_rfl) (by kernel_rfl) ?_
    refine Pt.skip (p' := [1, 1, 1, 0, 1, 0, 0, 1, 0, 0, 0]) (by kernel_rfl) (by kernel_rfl) ?_
    refine Pt.reg (by kernel_rfl) ?_
    obtain ⟨a3, h4, h⟩ := h
    refine AtO.seg 2 (by kernel_rfl) ?_
    refine AtO.val (by kernel_rfl) (val_idx_ow (s := 0) (ps := []) (t := 29) (x := (.tmp 22)) (ix := (.tmp 23)) (et := 38) (k := 1) (e := (eSl (eI .i64))) (l := k0_0) (i := y6_L1) (q := .i64) (a := a3) (by kernel_rfl) (by kernel_rfl) (by kernel_rfl) (by kernel_rfl) (by kernel_rfl) (by kernel_rfl) h4 (by kernel_rfl)) ?_
    refine AtO.val (by kernel_rfl) (val_load_ow (t := 38) (x := (.tmp 24)) (s := 0) (ps := []) (n := (y6_L1.toNat)) (c := 0) (e := (eSl (eI .i64))) (l := k0_0) (a := a3) (d := .sl (a3.map (eI .i64))) (by kernel_rfl) (by kernel_rfl) (by kernel_rfl) (by kernel_rfl) (lget_some h4).2 (by kernel_rfl)) ?_
    refine AtO.seg 1 (by kernel_rfl) ?_
    refine AtO.done (p' := [1, 1, 1, 0, 1, 0, 0, 1, 0, 0, 1, 0]) (F' := [(0, .own (k0_0.map (eSl (eI .i64)))), (1, .fn 64 []), (5, .lit (.int .i64 r1)), (6, .lit (.int .i64 y6_L1)), (7, .sl (a3.map (eI .i64)))]) (by kernel_rfl) (by kernel_rfl) (by kernel_rfl) ?_
    refine Pt.reg (by kernel_rfl) ?_
    obtain ⟨r5, h6, h⟩ := h
    refine AtO.seg 2 (by kernel_rfl) ?_
    refine AtO.call0 (x := (.tmp 26)) (g := 64) (caps := []) (agl := [.opn (.tmp 27)]) (ds := [.sl (a3.map (eI .i64))]) (r := .lit (.bool r5)) (r' := .lit (.bool r5)) (ms := [none]) (by kernel_rfl) (by kernel_rfl) (by kernel_rfl) (by kernel_rfl) (by kernel_rfl) (by kernel_rfl) (pass_snap (a := .opn (.tmp 27)) (d0 := .sl (a3.map (eI .i64))) (d := .sl (a3.map (eI .i64))) (by kernel_rfl) (by kernel_rfl) (by kernel_rfl) pass_nil) h6 rfl (by kernel_rfl) ?_
    refine AtO.putb (fun hc => ?_) (fun hc => ?_)
    · have h := ite_t h (id hc)
      refine AtO.seg 1 (by kernel_rfl) ?_
      refine AtO.done (p' := [1, 1, 1, 0, 1, 0, 0, 1, 0, 0, 1, 1]) (F' := [(0, .own (k0_0.map (eSl (eI .i64)))), (1, .fn 64 []), (5, .lit (.int .i64 r1)), (6, .lit (.int .i64 y6_L1)), (7, .sl (a3.map (eI .i64))), (29, .lit (.bool false))]) (by kernel_rfl) (by kernel_rfl) (by kernel_rfl) ?_
      refine Pt.cond_f (p' := [1, 1, 1, 0, 1, 0, 0, 1, 0, 0, 1, 1, 1]) (F' := [(0, .own (k0_0.map (eSl (eI .i64)))), (1, .fn 64 []), (5, .lit (.int .i64 r1)), (6, .lit (.int .i64 y6_L1))]) (y := (.tmp 29)) (by kernel_rfl) (by kernel_rfl) (by kernel_rfl) (by kernel_rfl) ?_
      refine Pt.skip (p' := [1, 1, 1, 0, 1, 0, 0, 1, 1]) (by kernel_rfl) (by kernel_rfl) ?_
      exact h
    · have h := ite_f h (fls hc)
      refine AtO.seg 1 (by kernel_rfl) ?_
      refine AtO.done (p' := [1, 1, 1, 0, 1, 0, 0, 1, 0, 0, 1, 1]) (F' := [(0, .own (k0_0.map (eSl (eI .i64)))), (1, .fn 64 []), (5, .lit (.int .i64 r1)), (6, .lit (.int .i64 y6_L1)), (7, .sl (a3.map (eI .i64))), (29, .lit (.bool true))]) (by kernel_rfl) (by kernel_rfl) (by kernel_rfl) ?_
      refine Pt.cond_t (p' := [1, 1, 1, 0, 1, 0, 0, 1, 0, 0, 1, 1, 0, 0]) (F' := [(0, .own (k0_0.map (eSl (eI .i64)))), (1, .fn 64 []), (5, .lit (.int .i64 r1)), (6, .lit (.int .i64 y6_L1)), (7, .sl (a3.map (eI .i64)))]) (y := (.tmp 29)) (by kernel_rfl) (by kernel_rfl) (by kernel_rfl) (by kernel_rfl) ?_
      refine Pt.reg (by kernel_rfl) ?_
      obtain ⟨a7, h8, h⟩ := h
      refine AtO.seg 3 (by kernel_rfl) ?_
      refine AtO.val (by kernel_rfl) (val_idx_ow (s := 0) (ps := []) (t := 29) (x := (.tmp 30)) (ix := (.tmp 31)) (et := 38) (k := 1) (e := (eSl (eI .i64))) (l := k0_0) (i := r1) (q := .i64) (a := a7) (by kernel_rfl) (by kernel_rfl) (by kernel_rfl) (by kernel_rfl) (by kernel_rfl) (by kernel_rfl) h8 (by kernel_rfl)) ?_
      refine AtO.op (by kernel_rfl) (store1 (t := 38) (x := (.tmp 33)) (y := (.tmp 32)) (s := 0) (ps := []) (n := (r1.toNat)) (c := 0) (e := (eSl (eI .i64))) (l := k0_0) (a := a7) (b := a3) (k := 1) (d := .sl (a3.map (eI .i64))) (by kernel_rfl) (by kernel_rfl) (by kernel_rfl) (by kernel_rfl) (lget_some h8).2 (by kernel_rfl) (by kernel_rfl) (by kernel_rfl) (by kernel_rfl) (by kernel_rfl) (setG_eq (by kernel_rfl))) ?_
      refine AtO.done (p' := [1, 1, 1, 0, 1, 0, 0, 1, 0, 0, 1, 1, 0, 1]) (F' := [(0, .own (((lset k0_0 r1 a3)).map (eSl (eI .i64)))), (1, .fn 64 []), (5, .lit (.int .i64 r1)), (6, .lit (.int .i64 y6_L1))]) (by kernel_rfl) (by kernel_rfl) (by kernel_rfl) ?_
      refine Pt.reg (by kernel_rfl) ?_
      refine AtO.seg 3 (by kernel_rfl) ?_
      refine AtO.done (p' := [1, 1, 1, 0, 1, 0, 0, 1, 1]) (F' := [(0, .own (((lset k0_0 r1 a3)).map (eSl (eI .i64)))), (1, .fn 64 []), (5, .lit (.int .i64 ((IntKind.wrap .i64 (r1 + 1))))), (6, .lit (.int .i64 y6_L1))]) (by kernel_rfl) (by kernel_rfl) (by kernel_rfl) ?_
      exact h
  · have h := ite_f h (of_decide_eq_false hc)
    refine AtO.done (p' := [1, 1, 1, 0, 1, 0, 0, 0, 1]) (F' := [(0, .own (k0_0.map (eSl (eI .i64)))), (1, .fn 64 []), (5, .lit (.int .i64 r1)), (6, .lit (.int .i64 y6_L1)), (19, .lit (.bool false))]) (by kernel_rfl) (by kernel_rfl) (by kernel_rfl) ?_
    refine Pt.cond_f (p' := [1, 1, 1, 0, 1, 0, 0, 0, 1, 1]) (F' := [(0, .own (k0_0.map (eSl (eI .i64)))), (5, .lit (.int .i64 r1))]) (y := (.tmp 19)) (by kernel_rfl) (by kernel_rfl) (by kernel_rfl) (by kernel_rfl) ?_
    refine Pt.exit (p' := [1, 1, 1, 1, 0]) (F' := [(0, .own (k0_0.map (eSl (eI .i64)))), (5, .lit (.int .i64 r1))]) (by kernel_rfl) (by kernel_rfl) (by kernel_rfl) ?_
    refine Pt.reg (by kernel_rfl) ?_
    obtain ⟨h9, h⟩ := h
    obtain ⟨h10, h⟩ := h
    refine AtO.seg 2 (by kernel_rfl) ?_
    refine AtO.val (by kernel_rfl) (val_slice_ow (s := 0) (ps := []) (t := 29) (x := (.tmp 36)) (lo := (some (.tmp 37))) (hi := none) (lo' := some (r1).toNat) (hi' := none) (e := (eSl (eI .i64))) (l := k0_0) (et := 38) (k := 1) (by kernel_rfl) (by kernel_rfl) (elemsOf_ow (by kernel_rfl)) (optNat_some (i := r1) (q := .i64) (by kernel_rfl) h9) optNat_none (by kernel_rfl) (by kernel_rfl) (fun _ => rfl) (by kernel_rfl) h10.1 h10.2) ?_
    obtain ⟨h11, h⟩ := h
    refine AtO.op (by kernel_rfl) (op_clear (t := 29) (x := (.tmp 38)) (s := 0) (ps := []) (off := r1.toNat) (len := (k0_0.length - r1.toNat)) (l := k0_0) (e := (eSl (eI .i64))) (et := 38) (z := .own []) (k := 1) (by kernel_rfl) (by kernel_rfl) (by kernel_rfl) (by kernel_rfl) (by kernel_rfl) (by kernel_rfl) (by kernel_rfl) (by kernel_rfl) (fun _ => rfl) h11 (by kernel_rfl)) ?_
    refine AtO.done (p' := [1, 1, 1, 1, 1, 0]) (F' := [(0, .own (clr (eSl (eI .i64)) k0_0 r1.toNat ((k0_0.length - r1.toNat)) (.own []))), (5, .lit (.int .i64 r1))]) (by kernel_rfl) (by kernel_rfl) (by kernel_rfl) ?_
    refine Pt.reg (by kernel_rfl) ?_
    obtain ⟨h12, h⟩ := h
    obtain ⟨h13, h⟩ := h
    obtain ⟨h14, h⟩ := h
    refine AtO.seg 2 (by kernel_rfl) ?_
    refine AtO.val (by kernel_rfl) (val_slice_clr (t := 29) (x := (.tmp 39)) (hi := (some (.tmp 40))) (hi' := r1.toNat) (e := (eSl (eI .i64))) (l := k0_0) (off := r1.toNat) (len := (k0_0.length - r1.toNat)) (z := .own []) (et := 38) (k := 1) (s := 0) (ps := []) (by kernel_rfl) (by kernel_rfl) (by kernel_rfl) (optNat_some (i := r1) (q := .i64) (by kernel_rfl) h12) (by kernel_rfl) (by kernel_rfl) (fun _ => rfl) (by kernel_rfl) (by kernel_rfl) h13 h14) ?_
    refine AtO.seg 1 (by kernel_rfl) ?_
    refine AtO.done (p' := [1, 1, 1, 1, 1, 1]) (F' := [(0, .own (clr (eSl (eI .i64)) k0_0 r1.toNat ((k0_0.length - r1.toNat)) (.own []))), (4, .sub 0 [] 0 r1.toNat)]) (by kernel_rfl) (by kernel_rfl) (by kernel_rfl) ?_
    obtain ⟨h15, h⟩ := h
    exact Pt.ret (⟨(List.take r1.toNat k0_0), (!(((List.take r1.toNat k0_0)).isEmpty))⟩) (by kernel_rfl) (leave_sub (t := 4) (s := 0) (n := r1.toNat) (m := (List.take r1.toNat k0_0)) (e := (eSl (eI .i64))) (es := clr (eSl (eI .i64)) k0_0 r1.toNat (k0_0.length - r1.toNat) (.own [])) (by kernel_rfl) (by kernel_rfl) (by kernel_rfl) (by rw [clr_len (by first | exact h15.1 | omega)]; exact h15.2.1) (clr_take h15.1 h15.2.2) (by kernel_rfl)) h
theorem L2_step (k0_0 : List (List Int)) (r1 : Int) (y6_L1 : Int) (φ : (List (List Int) × Bool) → Prop) (h :
    slices_DeleteFunc_ssint_sint_v1.L1 k0_0 r1 ((IntKind.wrap .i64 (y6_L1 + 1))) φ) : L2 k0_0 r1 y6_L1 φ := by
  unfold L2
  refine Pt.reg (by kernel_rfl) ?_
  refine AtO.seg 3 (by kernel_rfl) ?_
  refine AtO.done (p' := [1, 1, 1, 0, 1, 0]) (F' := [(0, .own (k0_0.map (eSl (eI .i64)))), (1, .fn 64 []), (5, .lit (.int .i64 r1)), (6, .lit (.int .i64 ((IntKind.wrap .i64 (y6_L1 + 1)))))]) (by kernel_rfl) (by kernel_rfl) (by kernel_rfl) ?_
  exact h
theorem enter (k0_0 : List (List Int)) (φ : (List (List Int) × Bool) → Prop) (h :
    ∃ r1 : Int, slices_IndexFunc_ssint_sint_v1.C k0_0 r1 ∧
    (if r1 = (-1) then
      φ (⟨k0_0, true⟩)
    else
      slices_DeleteFunc_ssint_sint_v1.L1 k0_0 r1 ((IntKind.wrap .i64 (r1 + 1))) φ)) : ∃ r, φ r ∧ C k0_0 r := by
  refine Ret.of_at (E := env) (f := 63) (fd := Tryd.f63) (body := B) (p := [0]) (V := W) (F := [(0, .own (k0_0.map (eSl (eI .i64)))), (1, .fn 64 []), (4, .undef), (5, .undef), (6, .undef), (7, .undef), (12, .undef), (19, .undef), (29, .undef)]) (res := res) (φ := φ) (ds := [.own (k0_0.map (eSl (eI .i64))), .fn 64 []]) (by kernel_rfl) (by kernel_rfl) (by kernel_rfl) ⟨Nat.le_of_ble_eq_true (by kernel_rfl), Nat.le_of_ble_eq_true (by kernel_rfl)⟩ (by kernel_rfl) (by kernel_rfl) (by kernel_rfl) ?_
  refine Pt.reg (by kernel_rfl) ?_
  refine AtO.seg 1 (by kernel_rfl) ?_
  refine AtO.done (p' := [1, 0]) (F' := [(0, .own (k0_0.map (eSl (eI .i64)))), (1, .fn 64 [])]) (by kernel_rfl) (by kernel_rfl) (by kernel_rfl) ?_
  refine Pt.reg (by kernel_rfl) ?_
  obtain ⟨r1, h2, h⟩ := h
  refine AtO.seg 2 (by kernel_rfl) ?_
  refine AtO.call0 (x := (.func 66)) (g := 66) (caps := []) (agl := [.opn (.tmp 8), .opn (.tmp 9)]) (ds := [.sl (k0_0.map (eSl (eI .i64))), .fn 64 []]) (r := .lit (.int .i64 r1)) (r' := .lit (.int .i64 r1)) (ms := [none, none]) (by kernel_rfl) (by kernel_rfl) (by kernel_rfl) (by kernel_rfl) (by kernel_rfl) (by kernel_rfl) (pass_snap (a := .opn (.tmp 8)) (d0 := .alias 0 []) (d := .sl (k0_0.map (eSl (eI .i64)))) (by kernel_rfl) (by kernel_rfl) (snap_ow (s := 0) (ps := []) (l := k0_0) (e := (eSl (eI .i64))) (e' := (eSl (eI .i64))) (fun _ => rfl) (by kernel_rfl)) (pass_snap (a := .opn (.tmp 9)) (d0 := .fn 64 []) (d := .fn 64 []) (by kernel_rfl) (by kernel_rfl) (by kernel_rfl) pass_nil)) h2 rfl (by kernel_rfl) ?_
  refine AtO.seg 1 (by kernel_rfl) ?_
  refine AtO.done (p' := [1, 1, 0, 0]) (F' := [(0, .own (k0_0.map (eSl (eI .i64)))), (1, .fn 64 []), (5, .lit (.int .i64 r1))]) (by kernel_rfl) (by kernel_rfl) (by kernel_rfl) ?_
  refine Pt.reg (by kernel_rfl) ?_
  refine AtO.seg 1 (by kernel_rfl) ?_
  refine AtO.bool (b := (r1 == (-1))) (by kernel_rfl) (by kernel_rfl) (fun hc => ?_) (fun hc => ?_)
  · have h := ite_t h (beq_t hc)
    refine AtO.done (p' := [1, 1, 0, 1]) (F' := [(0, .own (k0_0.map (eSl (eI .i64)))), (1, .fn 64 []), (5, .lit (.int .i64 r1)), (12, .lit (.bool true))]) (by kernel_rfl) (by kernel_rfl) (by kernel_rfl) ?_
    refine Pt.cond_t (p' := [1, 1, 0, 1, 0, 0]) (F' := [(0, .own (k0_0.map (eSl (eI .i64))))]) (y := (.tmp 12)) (by kernel_rfl) (by kernel_rfl) (by kernel_rfl) (by kernel_rfl) ?_
    refine Pt.reg (by kernel_rfl) ?_
    refine AtO.seg 2 (by kernel_rfl) ?_
    refine AtO.done (p' := [1, 1, 0, 1, 0, 1]) (F' := [(0, .own (k0_0.map (eSl (eI .i64)))), (4, .alias 0 [])]) (by kernel_rfl) (by kernel_rfl) (by kernel_rfl) ?_
    exact Pt.ret (⟨k0_0, true⟩) (by kernel_rfl) (by kernel_rfl) h
  · have h := ite_f h (beq_f hc)
    refine AtO.done (p' := [1, 1, 0, 1]) (F' := [(0, .own (k0_0.map (eSl (eI .i64)))), (1, .fn 64 []), (5, .lit (.int .i64 r1)), (12, .lit (.bool false))]) (by kernel_rfl) (by kernel_rfl) (by kernel_rfl) ?_
    refine Pt.cond_f (p' := [1, 1, 0, 1, 1]) (F' := [(0, .own (k0_0.map (eSl (eI .i64)))), (1, .fn 64 []), (5, .lit (.int .i64 r1))]) (y := (.tmp 12)) (by kernel_rfl) (by kernel_rfl) (by kernel_rfl) (by kernel_rfl) ?_
    refine Pt.skip (p' := [1, 1, 1, 0, 0]) (by kernel_rfl) (by kernel_rfl) ?_
    refine Pt.reg (by kernel_rfl) ?_
    refine AtO.seg 3 (by kernel_rfl) ?_
    refine AtO.done (p' := [1, 1, 1, 0, 1, 0]) (F' := [(0, .own (k0_0.map (eSl (eI .i64)))), (1, .fn 64 []), (5, .lit (.int .i64 r1)), (6, .lit (.int .i64 ((IntKind.wrap .i64 (r1 + 1)))))]) (by kernel_rfl) (by kernel_rfl) (by kernel_rfl) ?_
    exact h
end slices_DeleteFunc_ssint_sint_v1
end Go.Own

namespace Go.Own
open Go.Proofs D
set_option maxRecDepth 100000
set_option maxHeartbeats 4000000
namespace partition_groups_2_int
noncomputable def B : Code := (Tryd.f42.body).getD .skip
def W : List Nat := [0, 2, 3, 4, 5, 6, 7, 8, 10, 11, 12, 13, 24]
def res (r : List (List Int)) : D × List D := (.sl (r.map (eSl (eI .i64))), [])
def C (x0 : List (Int × Int)) (r : List (List Int)) : Prop := Ret env 42 [.sl (x0.map enc_arr2_Int)] (res r).1 (res r).2
def L1 (x0 : List (Int × Int)) (y3_L1 : List ((Int × Int) × Int)) (y4_L1 : List (List Int)) (y12_L1 : Int) (φ : List (List Int) → Prop) : Prop := Pt env 42 W B [1, 1, 1, 0, 1, 0] [(0, .sl (x0.map enc_arr2_Int)), (3, (eMap (fun (x : (Int × Int)) => Value.agg #[Value.int .i64 x.1, Value.int .i64 x.2]) (fun (x : Int) => D.lit (.int .i64 x)) y3_L1)), (4, .own (y4_L1.map (eOw (eI .i64)))), (10, .sl (x0.map enc_arr2_Int)), (11, .lit (.int .i64 ((x0.length : Int)))), (12, .lit (.int .i64 y12_L1))] (Lv env 42 Tryd.f42 1 res φ)
def L2 (x0 : List (Int × Int)) (y3_L2 : List ((Int × Int) × Int)) (y4_L1 : List (List Int)) (y12_L1 : Int) (y7_L2 : Int) (φ : List (List Int) → Prop) : Prop := Pt env 42 W B [1, 1, 1, 0, 1, 0, 0, 1, 1, 0, 0, 1, 1, 1] [(0, .sl (x0.map enc_arr2_Int)), (3, (eMap (fun (x : (Int × Int)) => Value.agg #[Value.int .i64 x.1, Value.int .i64 x.2]) (fun (x : Int) => D.lit (.int .i64 x)) y3_L2)), (4, .own (y4_L1.map (eOw (eI .i64)))), (5, .lit (.int .i64 y12_L1)), (7, .lit (.int .i64 y7_L2)), (10, .sl (x0.map enc_arr2_Int)), (11, .lit (.int .i64 ((x0.length : Int)))), (12, .lit (.int .i64 y12_L1))] (Lv env 42 Tryd.f42 1 res φ)
theorem L1_step (x0 : List (Int × Int)) (y3_L1 : List ((Int × Int) × Int)) (y4_L1 : List (List Int)) (y12_L1 : Int) (φ : List (List Int) → Prop) (h :
    (if y12_L1 < (x0.length : Int) then
      ∃ a1, lget x0 y12_L1 = some a1 ∧
      (if (mhas a1 y3_L1) = true then
        partition_groups_2_int.L2 x0 y3_L1 y4_L1 y12_L1 ((mgetD a1 y3_L1 0)) φ
      else
        (y4_L1.length + 1) * 24 ≤ 140737488355328 ∧
        partition_groups_2_int.L2 x0 ((mset a1 (y4_L1.length : Int) y3_L1)) ((y4_L1 ++ [[]])) y12_L1 ((y4_L1.length : Int)) φ)
    else
      ∃ r4 : (List (List Int) × Bool), slices_DeleteFunc_ssint_sint_v1.C y4_L1 r4 ∧
      φ r4.1)) : L1 x0 y3_L1 y4_L1 y12_L1 φ := by
  unfold L1
  refine Pt.loop (p' := [1, 1, 1, 0, 1, 0, 0, 0]) (by kernel_rfl) (by kernel_rfl) ?_
  refine Pt.reg (by kernel_rfl) ?_
  refine AtO.bool (b := (decide (y12_L1 < (x0.length : Int)))) (by kernel_rfl) (by kernel_rfl) (fun hc => ?_) (fun hc => ?_)
  · have h := ite_t h (of_decide_eq_true hc)
    refine AtO.done (p' := [1, 1, 1, 0, 1, 0, 0, 1, 0]) (F' := [(0, .sl (x0.map enc_arr2_Int)), (3, (eMap (fun (x : (Int × Int)) => Value.agg #[Value.int .i64 x.1, Value.int .i64 x.2]) (fun (x : Int) => D.lit (.int .i64 x)) y3_L1)), (4, .own (y4_L1.map (eOw (eI .i64)))), (10, .sl (x0.map enc_arr2_Int)), (11, .lit (.int .i64 ((x0.length : Int)))), (12, .lit (.int .i64 y12_L1)), (13, .lit (.bool true))]) (by kernel_rfl) (by kernel_rfl) (by kernel_rfl) ?_
    refine Pt.cond_t (p' := [1, 1, 1, 0, 1, 0, 0, 1, 0, 0]) (F' := [(0, .sl (x0.map enc_arr2_Int)), (3, (eMap (fun (x : (Int × Int)) => Value.agg #[Value.int .i64 x.1, Value.int .i64 x.2]) (fun (x : Int) => D.lit (.int .i64 x)) y3_L1)), (4, .own (y4_L1.map (eOw (eI .i64)))), (10, .sl (x0.map enc_arr2_Int)), (11, .lit (.int .i64 ((x0.length : Int)))), (12, .lit (.int .i64 y12_L1))]) (y := (.tmp 13)) (by kernel_rfl) (by kernel_rfl) (by kernel_rfl) (by kernel_rfl) ?_
    refine Pt.skip (p' := [1, 1, 1, 0, 1, 0, 0, 1, 1, 0, 0, 0]) (by kernel_rfl) (by kernel_rfl) ?_
    refine Pt.reg (by kernel_rfl) ?_
    obtain ⟨a1, h2, h⟩ := h
    refine AtO.seg 1 (by kernel_rfl) ?_
    refine AtO.val (by kernel_rfl) (val_idx_sl (t := 73) (x := (.tmp 10)) (ix := (.tmp 12)) (et := 74) (k := 2) (e := enc_arr2_Int) (l := x0) (i := y12_L1) (q := .i64) (a := a1) (by kernel_rfl) (by kernel_rfl) (by kernel_rfl) (by kernel_rfl) (by kernel_rfl) h2 (by kernel_rfl)) ?_
    refine AtO.seg 4 (by kernel_rfl) ?_
    refine AtO.done (p' := [1, 1, 1, 0, 1, 0, 0, 1, 1, 0, 0, 1, 0]) (F' := [(0, .sl (x0.map enc_arr2_Int)), (3, (eMap (fun (x : (Int × Int)) => Value.agg #[Value.int .i64 x.1, Value.int .i64 x.2]) (fun (x : Int) => D.lit (.int .i64 x)) y3_L1)), (4, .own (y4_L1.map (eOw (eI .i64)))), (5, .lit (.int .i64 y12_L1)), (6, .box [.lit (.int .i64 a1.1), .lit (.int .i64 a1.2)]), (10, .sl (x0.map enc_arr2_Int)), (11, .lit (.int .i64 ((x0.length : Int)))), (12, .lit (.int .i64 y12_L1))]) (by kernel_rfl) (by kernel_rfl) (by kernel_rfl) ?_
    refine Pt.reg (by kernel_rfl) ?_
    refine AtO.seg 2 (by kernel_rfl) ?_
    refine AtO.val (by kernel_rfl) (val_lookup_t kb_arr2 (fun _ => by kernel_rfl) (ek := (fun (x : (Int × Int)) => Value.agg #[Value.int .i64 x.1, Value.int .i64 x.2])) (ev := (fun (x : Int) => D.lit (.int .i64 x))) (t := 104) (x := (.tmp 18)) (kx := (.tmp 19)) (s := 3) (ps := []) (l := y3_L1) (kd := .agg [.lit (.int .i64 a1.1), .lit (.int .i64 a1.2)]) (kv := a1) (kt := 74) (vt := 3) (v0 := 0) (by kernel_rfl) (by kernel_rfl) (by kernel_rfl) (by kernel_rfl) (by kernel_rfl) (by kernel_rfl) (by kernel_rfl) (by kernel_rfl)) ?_
    refine AtO.seg 5 (by kernel_rfl) ?_
    refine AtO.done (p' := [1, 1, 1, 0, 1, 0, 0, 1, 1, 0, 0, 1, 1, 0, 0]) (F' := [(0, .sl (x0.map enc_arr2_Int)), (3, (eMap (fun (x : (Int × Int)) => Value.agg #[Value.int .i64 x.1, Value.int .i64 x.2]) (fun (x : Int) => D.lit (.int .i64 x)) y3_L1)), (4, .own (y4_L1.map (eOw (eI .i64)))), (5, .lit (.int .i64 y12_L1)), (6, .box [.lit (.int .i64 a1.1), .lit (.int .i64 a1.2)]), (7, .lit (.int .i64 ((mgetD a1 y3_L1 0)))), (8, .lit (.bool ((mhas a1 y3_L1)))), (10, .sl (x0.map enc_arr2_Int)), (11, .lit (.int .i64 ((x0.length : Int)))), (12, .lit (.int .i64 y12_L1))]) (by kernel_rfl) (by kernel_rfl) (by kernel_rfl) ?_
    refine Pt.reg (by kernel_rfl) ?_
    refine AtO.bool (b := (mhas a1 y3_L1)) (by kernel_rfl) (by kernel_rfl) (fun hc => ?_) (fun hc => ?_)
    · have h := ite_t h (id hc)
      refine AtO.seg 1 (by kernel_rfl) ?_
      refine AtO.done (p' := [1, 1, 1, 0, 1, 0, 0, 1, 1, 0, 0, 1, 1, 0, 1]) (F' := [(0, .sl (x0.map enc_arr2_Int)), (3, (eMap (fun (x : (Int × Int)) => Value.agg #[Value.int .i64 x.1, Value.int .i64 x.2]) (fun (x : Int) => D.lit (.int .i64 x)) y3_L1)), (4, .own (y4_L1.map (eOw (eI .i64)))), (5, .lit (.int .i64 y12_L1)), (6, .box [.lit (.int .i64 a1.1), .lit (.int .i64 a1.2)]), (7, .lit (.int .i64 ((mgetD a1 y3_L1 0)))), (10, .sl (x0.map enc_arr2_Int)), (11, .lit (.int .i64 ((x0.length : Int)))), (12, .lit (.int .i64 y12_L1)), (24, .lit (.bool false))]) (by kernel_rfl) (by kernel_rfl) (by kernel_rfl) ?_
      refine Pt.cond_f (p' := [1, 1, 1, 0, 1, 0, 0, 1, 1, 0, 0, 1, 1, 0, 1, 1]) (F' := [(0, .sl (x0.map enc_arr2_Int)), (3, (eMap (fun (x : (Int × Int)) => Value.agg #[Value.int .i64 x.1, Value.int .i64 x.2]) (fun (x : Int) => D.lit (.int .i64 x)) y3_L1)), (4, .own (y4_L1.map (eOw (eI .i64)))), (5, .lit (.int .i64 y12_L1)), (7, .lit (.int .i64 ((mgetD a1 y3_L1 0)))), (10, .sl (x0.map enc_arr2_Int)), (11, .lit (.int .i64 ((x0.length : Int)))), (12, .lit (.int .i64 y12_L1))]) (y := (.tmp 24)) (by kernel_rfl) (by kernel_rfl) (by kernel_rfl) (by kernel_rfl) ?_
      refine Pt.skip (p' := [1, 1, 1, 0, 1, 0, 0, 1, 1, 0, 0, 1, 1, 1]) (by kernel_rfl) (by kernel_rfl) ?_
      exact h
    · have h := ite_f h (fls hc)
      refine AtO.seg 1 (by kernel_rfl) ?_
      refine AtO.done (p' := [1, 1, 1, 0, 1, 0, 0, 1, 1, 0, 0, 1, 1, 0, 1]) (F' := [(0, .sl (x0.map enc_arr2_Int)), (3, (eMap (fun (x : (Int × Int)) => Value.agg #[Value.int .i64 x.1, Value.int .i64 x.2]) (fun (x : Int) => D.lit (.int .i64 x)) y3_L1)), (4, .own (y4_L1.map (eOw (eI .i64)))), (5, .lit (.int .i64 y12_L1)), (6, .box [.lit (.int .i64 a1.1), .lit (.int .i64 a1.2)]), (7, .lit (.int .i64 ((mgetD a1 y3_L1 0)))), (10, .sl (x0.map enc_arr2_Int)), (11, .lit (.int .i64 ((x0.length : Int)))), (12, .lit (.int .i64 y12_L1)), (24, .lit (.bool true))]) (by kernel_rfl) (by kernel_rfl) (by kernel_rfl) ?_
      refine Pt.cond_t (p' := [1, 1, 1, 0, 1, 0, 0, 1, 1, 0, 0, 1, 1, 0, 1, 0, 0]) (F' := [(0, .sl (x0.map enc_arr2_Int)), (3, (eMap (fun (x : (Int × Int)) => Value.agg #[Value.int .i64 x.1, Value.int .i64 x.2]) (fun (x : Int) => D.lit (.int .i64 x)) y3_L1)), (4, .own (y4_L1.map (eOw (eI .i64)))), (5, .lit (.int .i64 y12_L1)), (6, .box [.lit (.int .i64 a1.1), .lit (.int .i64 a1.2)]), (10, .sl (x0.map enc_arr2_Int)), (11, .lit (.int .i64 ((x0.length : Int)))), (12, .lit (.int .i64 y12_L1))]) (y := (.tmp 24)) (by kernel_rfl) (by kernel_rfl) (by kernel_rfl) (by kernel_rfl) ?_
      refine Pt.reg (by kernel_rfl) ?_
      refine AtO.seg 1 (by kernel_rfl) ?_
      refine AtO.val (by kernel_rfl) (val_len (x := (.tmp 25)) (t := 29) (et := 38) (d := .alias 4 []) (e := (eOw (eI .i64))) (l := y4_L1) (by kernel_rfl) (by kernel_rfl) (elemsOf_ow (by kernel_rfl)) (by kernel_rfl)) ?_
      refine AtO.seg 1 (by kernel_rfl) ?_
      refine AtO.done (p' := [1, 1, 1, 0, 1, 0, 0, 1, 1, 0, 0, 1, 1, 0, 1, 0, 1, 0]) (F' := [(0, .sl (x0.map enc_arr2_Int)), (3, (eMap (fun (x : (Int × Int)) => Value.agg #[Value.int .i64 x.1, Value.int .i64 x.2]) (fun (x : Int) => D.lit (.int .i64 x)) y3_L1)), (4, .own (y4_L1.map (eOw (eI .i64)))), (5, .lit (.int .i64 y12_L1)), (6, .box [.lit (.int .i64 a1.1), .lit (.int .i64 a1.2)]), (7, .lit (.int .i64 ((y4_L1.length : Int)))), (10, .sl (x0.map enc_arr2_Int)), (11, .lit (.int .i64 ((x0.length : Int)))), (12, .lit (.int .i64 y12_L1))]) (by kernel_rfl) (by kernel_rfl) (by kernel_rfl) ?_
      refine Pt.reg (by kernel_rfl) ?_
      refine AtO.seg 3 (by kernel_rfl) ?_
      refine AtO.op (by kernel_rfl) (op_mapUpdate kb_arr2 (fun _ => by kernel_rfl) (ek := (fun (x : (Int × Int)) => Value.agg #[Value.int .i64 x.1, Value.int .i64 x.2])) (ev := (fun (x : Int) => D.lit (.int .i64 x))) (t := 104) (mx := (.tmp 27)) (kx := (.tmp 28)) (vx := (.tmp 29)) (s := 3) (ps := []) (l := y3_L1) (kd := .agg [.lit (.int .i64 a1.1), .lit (.int .i64 a1.2)]) (kv := a1) (kt := 74) (vt := 3) (v := (y4_L1.length : Int)) (d := .lit (.int .i64 ((y4_L1.length : Int)))) (by kernel_rfl) (by kernel_rfl) (by kernel_rfl) (by kernel_rfl) (by kernel_rfl) (by kernel_rfl) (by kernel_rfl) (by kernel_rfl) (by kernel_rfl) (setG_eq (by kernel_rfl))) ?_
      refine AtO.done (p' := [1, 1, 1, 0, 1, 0, 0, 1, 1, 0, 0, 1, 1, 0, 1, 0, 1, 1]) (F' := [(0, .sl (x0.map enc_arr2_Int)), (3, (eMap (fun (x : (Int × Int)) => Value.agg #[Value.int .i64 x.1, Value.int .i64 x.2]) (fun (x : Int) => D.lit (.int .i64 x)) ((mset a1 (y4_L1.length : Int) y3_L1)))), (4, .own (y4_L1.map (eOw (eI .i64)))), (5, .lit (.int .i64 y12_L1)), (7, .lit (.int .i64 ((y4_L1.length : Int)))), (10, .sl (x0.map enc_arr2_Int)), (11, .lit (.int .i64 ((x0.length : Int)))), (12, .lit (.int .i64 y12_L1))]) (by kernel_rfl) (by kernel_rfl) (by kernel_rfl) ?_
      refine Pt.reg (by kernel_rfl) ?_
      obtain ⟨h3, h⟩ := h
      refine AtO.seg 2 (by kernel_rfl) ?_
      refine AtO.op (by kernel_rfl) (app1 (x := (.tmp 30)) (y := (.tmp 31)) (t := 29) (u := 29) (et := 38) (z := .own []) (k := 1) (c := 24) (e := (eOw (eI .i64))) (l := y4_L1) (m := [[]]) (by kernel_rfl) (by kernel_rfl) (by kernel_rfl) (by kernel_rfl) (by kernel_rfl) (by kernel_rfl) (by kernel_rfl) (by kernel_rfl) (by kernel_rfl) (by kernel_rfl) (by kernel_rfl) (fun _ => rfl) h3) ?_
      refine AtO.seg 1 (by kernel_rfl) ?_
      refine AtO.done (p' := [1, 1, 1, 0, 1, 0, 0, 1, 1, 0, 0, 1, 1, 1]) (F' := [(0, .sl (x0.map enc_arr2_Int)), (3, (eMap (fun (x : (Int × Int)) => Value.agg #[Value.int .i64 x.1, Value.int .i64 x.2]) (fun (x : Int) => D.lit (.int .i64 x)) ((mset a1 (y4_L1.length : Int) y3_L1)))), (4, .own (((y4_L1 ++ [[]])).map (eOw (eI .i64)))), (5, .lit (.int .i64 y12_L1)), (7, .lit (.int .i64 ((y4_L1.length : Int)))), (10, .sl (x0.map enc_arr2_Int)), (11, .lit (.int .i64 ((x0.length : Int)))), (12, .lit (.int .i64 y12_L1))]) (by kernel_rfl) (by kernel_rfl) (by kernel_rfl) ?_
      exact h
  · have h := ite_f h (of_decide_eq_false hc)
    refine AtO.done (p' := [1, 1, 1, 0, 1, 0, 0, 1, 0]) (F' := [(0, .sl (x0.map enc_arr2_Int)), (3, (eMap (fun (x : (Int × Int)) => Value.agg #[Value.int .i64 x.1, Value.int .i64 x.2]) (fun (x : Int) => D.lit (.int .i64 x)) y3_L1)), (4, .own (y4_L1.map (eOw (eI .i64)))), (10, .sl (x0.map enc_arr2_Int)), (11, .lit (.int .i64 ((x0.length : Int)))), (12, .lit (.int .i64 y12_L1)), (13, .lit (.bool false))]) (by kernel_rfl) (by kernel_rfl) (by kernel_rfl) ?_
    refine Pt.cond_f (p' := [1, 1, 1, 0, 1, 0, 0, 1, 0, 1]) (F' := [(4, .own (y4_L1.map (eOw (eI .i64))))]) (y := (.tmp 13)) (by kernel_rfl) (by kernel_rfl) (by kernel_rfl) (by kernel_rfl) ?_
    refine Pt.exit (p' := [1, 1, 1, 1, 0]) (F' := [(4, .own (y4_L1.map (eSl (eI .i64))))]) (by kernel_rfl) (by kernel_rfl) (trim_chill (F0 := [(4, .own (y4_L1.map (eOw (eI .i64))))]) (l := y4_L1) (e := (eI .i64)) (e' := (eI .i64)) (s := 4) (by kernel_rfl) (by kernel_rfl) (by kernel_rfl) (fun _ => rfl) (by kernel_rfl) (by kernel_rfl)) ?_
    refine Pt.reg (by kernel_rfl) ?_
    obtain ⟨r4, h5, h⟩ := h
    refine AtO.seg 1 (by kernel_rfl) ?_
    refine AtO.callN (x := (.func 63)) (g := 63) (caps := []) (agl := [.opn (.tmp 44), .opn (.func 64)]) (ds := [.own (y4_L1.map (eSl (eI .i64))), .fn 64 []]) (r := (sown (r4.1.map (eSl (eI .i64))) r4.2)) (r' := .sl (r4.1.map (eSl (eI .i64)))) (ms := [some (.own (y4_L1.map (eSl (eI .i64)))), none]) (l := none) (ld := none) (outs := []) (by kernel_rfl) (by kernel_rfl) (by kernel_rfl) (by kernel_rfl) (by kernel_rfl) (by kernel_rfl) (by kernel_rfl) (pass_move (a := .opn (.tmp 44)) (d := .own (y4_L1.map (eSl (eI .i64)))) (pass_snap (a := .opn (.func 64)) (d0 := .fn 64 []) (d := .fn 64 []) (by kernel_rfl) (by kernel_rfl) (by kernel_rfl) pass_nil)) h5 (ite_both (by kernel_rfl)) (by kernel_rfl) (cold_sown (l := r4.1) (e := (eSl (eI .i64))) (by kernel_rfl) (fun _ => rfl)) ?_
    refine AtO.seg 1 (by kernel_rfl) ?_
    refine AtO.done (p' := [1, 1, 1, 1, 1]) (F' := [(2, .sl (r4.1.map (eSl (eI .i64))))]) (by kernel_rfl) (by kernel_rfl) (by kernel_rfl) ?_
    exact Pt.ret r4.1 (by kernel_rfl) (by kernel_rfl) h
theorem L2_step (x0 : List (Int × Int)) (y3_L2 : List ((Int × Int) × Int)) (y4_L1 : List (List Int)) (y12_L1 : Int) (y7_L2 : Int) (φ : List (List Int) → Prop) (h :
    ∃ a6, lget y4_L1 y7_L2 = some a6 ∧
    (a6.length + 1) * 8 ≤ 140737488355328 ∧
    partition_groups_2_int.L1 x0 y3_L2 ((lset y4_L1 y7_L2 (a6 ++ [y12_L1]))) ((IntKind.wrap .i64 (y12_L1 + 1))) φ) : L2 x0 y3_L2 y4_L1 y12_L1 y7_L2 φ := by
  unfold L2
  refine Pt.reg (by kernel_rfl) ?_
  obtain ⟨a6, h7, h⟩ := h
  refine AtO.seg 4 (by kernel_rfl) ?_
  refine AtO.val (by kernel_rfl) (val_idx_ow (s := 4) (ps := []) (t := 29) (x := (.tmp 35)) (ix := (.tmp 36)) (et := 38) (k := 1) (e := (eOw (eI .i64))) (l := y4_L1) (i := y7_L2) (q := .i64) (a := a6) (by kernel_rfl) (by kernel_rfl) (by kernel_rfl) (by kernel_rfl) (by kernel_rfl) (by kernel_rfl) h7 (by kernel_rfl)) ?_
  refine AtO.val (by kernel_rfl) (val_load_ow (t := 38) (x := (.tmp 37)) (s := 4) (ps := []) (n := (y7_L2.toNat)) (c := 0) (e := (eOw (eI .i64))) (l := y4_L1) (a := a6) (d := .alias 4 [((y7_L2.toNat), 0)]) (by kernel_rfl) (by kernel_rfl) (by kernel_rfl) (by kernel_rfl) (lget_some h7).2 (by kernel_rfl)) ?_
  obtain ⟨h8, h⟩ := h
  refine AtO.seg 2 (by kernel_rfl) ?_
  refine AtO.op (by kernel_rfl) (app2 (x := (.tmp 38)) (y := (.tmp 40)) (t := 38) (u := 38) (et := 3) (z := .lit (.int .i64 0)) (k := 1) (c := 8) (e := (eI .i64)) (l := a6) (m := [y12_L1]) (by kernel_rfl) (by kernel_rfl) (by kernel_rfl) (by kernel_rfl) (by kernel_rfl) (take_el (s := 4) (ps := []) (n := (y7_L2.toNat)) (c := 0) (e := (eOw (eI .i64))) (l := y4_L1) (a := a6) (by kernel_rfl) (by kernel_rfl) (lget_some h7).2 (by kernel_rfl) (by kernel_rfl) (setG_eq (by kernel_rfl))) (by kernel_rfl) (by kernel_rfl) (by kernel_rfl) (by kernel_rfl) (by kernel_rfl) (fun _ => rfl) h8) ?_
  refine AtO.val (by kernel_rfl) (val_idx_hole (s := 4) (ps := []) (cs := [.undef]) (t := 29) (x := (.tmp 33)) (ix := (.tmp 34)) (et := 38) (k := 1) (e := (eOw (eI .i64))) (l := y4_L1) (i := y7_L2) (q := .i64) (a := a6) (by kernel_rfl) (by kernel_rfl) (by kernel_rfl) (by kernel_rfl) (by kernel_rfl) (by kernel_rfl) h7 (by kernel_rfl)) ?_
  refine AtO.op (by kernel_rfl) (store2 (t := 38) (x := (.tmp 42)) (y := (.tmp 41)) (s := 4) (ps := []) (n := (y7_L2.toNat)) (e := (eOw (eI .i64))) (l := y4_L1) (a := a6) (b := (a6 ++ [y12_L1])) (k := 1) (cs := [.undef]) (d := .own (((a6 ++ [y12_L1])).map (eI .i64))) (by kernel_rfl) (by kernel_rfl) (by kernel_rfl) (by kernel_rfl) (lget_some h7).2 (by kernel_rfl) (by kernel_rfl) (by kernel_rfl) (by kernel_rfl) (by kernel_rfl) (setG_eq (by kernel_rfl))) ?_
  refine AtO.done (p' := [1, 1, 1, 0, 1, 0, 0, 1, 1, 1]) (F' := [(0, .sl (x0.map enc_arr2_Int)), (3, (eMap (fun (x : (Int × Int)) => Value.agg #[Value.int .i64 x.1, Value.int .i64 x.2]) (fun (x : Int) => D.lit (.int .i64 x)) y3_L2)), (4, .own (((lset y4_L1 y7_L2 (a6 ++ [y12_L1]))).map (eOw (eI .i64)))), (10, .sl (x0.map enc_arr2_Int)), (11, .lit (.int .i64 ((x0.length : Int)))), (12, .lit (.int .i64 y12_L1))]) (by kernel_rfl) (by kernel_rfl) (by kernel_rfl) ?_
  refine Pt.reg (by kernel_rfl) ?_
  refine AtO.seg 2 (by kernel_rfl) ?_
  refine AtO.done (p' := [1, 1, 1, 0, 1, 0]) (F' := [(0, .sl (x0.map enc_arr2_Int)), (3, (eMap (fun (x : (Int × Int)) => Value.agg #[Value.int .i64 x.1, Value.int .i64 x.2]) (fun (x : Int) => D.lit (.int .i64 x)) y3_L2)), (4, .own (((lset y4_L1 y7_L2 (a6 ++ [y12_L1]))).map (eOw (eI .i64)))), (10, .sl (x0.map enc_arr2_Int)), (11, .lit (.int .i64 ((x0.length : Int)))), (12, .lit (.int .i64 ((IntKind.wrap .i64 (y12_L1 + 1)))))]) (by kernel_rfl) (by kernel_rfl) (by kernel_rfl) ?_
  exact h
theorem enter (x0 : List (Int × Int)) (φ : List (List Int) → Prop) (h :
    partition_groups_2_int.L1 x0 ([]) ([]) 0 φ) : ∃ r, φ r ∧ C x0 r := by
  refine Ret.of_at (E := env) (f := 42) (fd := Tryd.f42) (body := B) (p := [0]) (V := W) (F := [(0, .sl (x0.map enc_arr2_Int)), (2, .undef), (3, .undef), (4, .undef), (5, .undef), (6, .undef), (7, .undef), (8, .undef), (10, .undef), (11, .undef), (12, .undef), (13, .undef), (24, .undef)]) (res := res) (φ := φ) (ds := [.sl (x0.map enc_arr2_Int)]) (by kernel_rfl) (by kernel_rfl) (by kernel_rfl) ⟨Nat.le_of_ble_eq_true (by kernel_rfl), Nat.le_of_ble_eq_true (by kernel_rfl)⟩ (by kernel_rfl) (by kernel_rfl) (by kernel_rfl) ?_
  refine Pt.reg (by kernel_rfl) ?_
  refine AtO.seg 1 (by kernel_rfl) ?_
  refine AtO.done (p' := [1, 0]) (F' := [(0, .sl (x0.map enc_arr2_Int))]) (by kernel_rfl) (by kernel_rfl) (by kernel_rfl) ?_
  refine Pt.reg (by kernel_rfl) ?_
  refine AtO.seg 2 (by kernel_rfl) ?_
  refine AtO.done (p' := [1, 1, 0]) (F' := [(0, .sl (x0.map enc_arr2_Int)), (3, (eMap (fun (x : (Int × Int)) => Value.agg #[Value.int .i64 x.1, Value.int .i64 x.2]) (fun (x : Int) => D.lit (.int .i64 x)) ([])))]) (by kernel_rfl) (by kernel_rfl) (by kernel_rfl) ?_
  refine Pt.reg (by kernel_rfl) ?_
  refine AtO.seg 1 (by kernel_rfl) ?_
  refine AtO.done (p' := [1, 1, 1, 0, 0]) (F' := [(0, .sl (x0.map enc_arr2_Int)), (3, (eMap (fun (x : (Int × Int)) => Value.agg #[Value.int .i64 x.1, Value.int .i64 x.2]) (fun (x : Int) => D.lit (.int .i64 x)) ([]))), (4, .own [])]) (by kernel_rfl) (by kernel_rfl) (by kernel_rfl) ?_
  refine Pt.reg (by kernel_rfl) ?_
  refine AtO.seg 1 (by kernel_rfl) ?_
  refine AtO.val (by kernel_rfl) (val_len (x := (.tmp 10)) (t := 73) (et := 74) (d := .sl (x0.map enc_arr2_Int)) (e := enc_arr2_Int) (l := x0) (by kernel_rfl) (by kernel_rfl) elemsOf_sl (by kernel_rfl)) ?_
  refine AtO.seg 1 (by kernel_rfl) ?_
  refine AtO.done (p' := [1, 1, 1, 0, 1, 0]) (F' := [(0, .sl (x0.map enc_arr2_Int)), (3, (eMap (fun (x : (Int × Int)) => Value.agg #[Value.int .i64 x.1, Value.int .i64 x.2]) (fun (x : Int) => D.lit (.int .i64 x)) ([]))), (4, .own []), (10, .sl (x0.map enc_arr2_Int)), (11, .lit (.int .i64 ((x0.length : Int)))), (12, .lit (.int .i64 0))]) (by kernel_rfl) (by kernel_rfl) (by kernel_rfl) ?_
  exact h
end partition_groups_2_int
end Go.Own

namespace Go.Own
def cls {α : Type} [DecidableEq α] (l : List α) (a : α) : List Int := ((List.range l.length).filter fun k => decide (l[k]? = some a)).map fun (k : Nat) => (k : Int)
def fsts {α : Type} [DecidableEq α] (l : List α) : List α := l.foldl (fun acc a => if a ∈ acc then acc else acc ++ [a]) []
def grpF {α : Type} [DecidableEq α] (l : List α) : List (List Int) := ((fsts l).map (cls l)).filter fun c => decide (2 ≤ c.length)
section
variable {α : Type} [DecidableEq α]
theorem fsts_snoc {l : List α} {a : α} : fsts (l ++ [a]) = if a ∈ fsts l then fsts l else fsts l ++ [a] := by
  unfold fsts
  rw [List.foldl_append]
  rfl
theorem list_snoc_ind {p : List α → Prop} (h0 : p []) (h1 : ∀ l a, p l → p (l ++ [a])) : ∀ l, p l := by
  intro l
  have : ∀ n (l : List α), l.length = n → p l := by
    intro n
    induction n with
    | zero => intro l hl; rw [List.length_eq_zero_iff.1 hl]; exact h0
    | succ n ih =>
      intro l hl
      have hne : l ≠ [] := fun h => by rw [h] at hl; simp at hl
      rw [← List.dropLast_concat_getLast hne]
      exact h1 _ _ (ih _ (by simp [hl]))
  exact this _ l rfl
theorem mem_fsts {l : List α} {a : α} : a ∈ fsts l ↔ a ∈ l := by
  refine list_snoc_ind (p := fun l => a ∈ fsts l ↔ a ∈ l) (by simp [fsts]) (fun l b ih => ?_) l
  rw [fsts_snoc]
  split
  · rename_i hb
    rw [ih]
    simp only [List.mem_append, List.mem_singleton]
    constructor
    · exact .inl
    · rintro (h | rfl)
      · exact h
      · have : a ∈ fsts l := hb
        exact ih.1 this
  · simp only [List.mem_append, List.mem_singleton, ih]
theorem fsts_nodup {l : List α} : (fsts l).Nodup := by
  refine list_snoc_ind (p := fun l => (fsts l).Nodup) (by simp [fsts]) (fun l b ih => ?_) l
  rw [fsts_snoc]
  split
  · exact ih
  · rename_i hb
    rw [List.nodup_append]
    exact ⟨ih, by simp, fun x hx y hy => by simp at hy; subst hy; exact fun h => hb (h ▸ hx)⟩
theorem cls_snoc {l : List α} {a b : α} : cls (l ++ [b]) a = if b = a then cls l a ++ [(l.length : Int)] else cls l a := by
  unfold cls
  rw [List.length_append, List.length_singleton, List.range_succ, List.filter_append, List.map_append]
  have h1 : ((List.range l.length).filter fun k => decide ((l ++ [b])[k]? = some a)) = (List.range l.length).filter fun k => decide (l[k]? = some a) := by
    refine List.filter_congr fun k hk => ?_
    rw [List.getElem?_append_left (by simpa using hk)]
  rw [h1]
  by_cases h : b = a
  · simp [h]
  · simp [h]
theorem cls_nil {a : α} : cls [] a = [] := rfl
theorem cls_out {l : List α} {a : α} (h : a ∉ l) : cls l a = [] := by
  unfold cls
  have : ((List.range l.length).filter fun k => decide (l[k]? = some a)) = [] := by
    rw [List.filter_eq_nil_iff]
    intro k _ hk
    exact h (List.mem_of_getElem? (by simpa using hk))
  rw [this]; rfl
theorem mem_cls {l : List α} {a : α} {i : Int} : i ∈ cls l a ↔ lget l i = some a := by
  unfold cls
  simp only [List.mem_map, List.mem_filter, List.mem_range, decide_eq_true_eq]
  constructor
  · rintro ⟨k, ⟨_, h⟩, rfl⟩; rw [lget_nat]; exact h
  · intro h
    obtain ⟨h0, h1⟩ := lget_some h
    exact ⟨i.toNat, ⟨(List.getElem?_eq_some_iff.1 h1).1, h1⟩, by omega⟩
end
namespace drossref08_group
theorem inner {x0 : List Int} {cs : List (List Int)} {i : Nat} {a : Int} {φ : api_Partition → Prop} (hn : x0.length ≤ 10000) (hcs : cs.length ≤ 10000) (hi : x0[i]? = some a) : ∀ (r : List Int) (k : Nat), x0.drop k = r →
    (if a ∈ x0.take i then L4 x0 cs i φ else if 2 ≤ (cls x0 a).length then L4 x0 (cs ++ [cls x0 a]) i φ else L4 x0 cs i φ) → L2 x0 cs i (cls (x0.take k) a) (decide (a ∈ x0.take (min k i))) k φ
  | [], k, hd, h => by
    apply L2_step
    have hk := drop_ge hd
    have hil := (List.getElem?_eq_some_iff.1 hi).1
    rw [if_neg (by omega), List.take_of_length_le hk, Nat.min_eq_right (by omega)]
    split at h
    · rename_i h1; rw [if_pos (by simpa using h1)]; exact h
    · rename_i h1
      rw [if_neg (by simpa using h1)]
      split at h
      · rename_i h2; rw [if_pos (by omega)]; exact ⟨by omega, h⟩
      · rename_i h2; rw [if_neg (by omega)]; exact h
  | b :: r, k, hd, h => by
    apply L2_step
    have hk := drop_lt hd
    rw [if_pos (by omega)]
    refine ⟨b, lget_drop hd, a, by rw [lget_nat]; exact hi, ?_⟩
    have htk : x0.take (k + 1) = x0.take k ++ [b] := by rw [List.take_add_one, drop_get hd]; rfl
    have hlen : (x0.take k).length = k := by rw [List.length_take]; omega
    have ih := inner hn hcs hi r (k + 1) (drop_next hd) h
    rw [htk, cls_snoc, hlen] at ih
    have hcl : (cls (x0.take k) a).length ≤ 10000 := by
      unfold cls
      rw [List.length_map]
      exact Nat.le_trans (List.length_filter_le _ _) (by simp; omega)
    split
    · rename_i hba
      subst hba
      rw [if_pos rfl] at ih
      refine ⟨by omega, ?_⟩
      have key : L3 x0 cs i (cls (x0.take k) b ++ [(k : Int)]) (decide (b ∈ x0.take (min (k + 1) i))) k φ := by
        apply L3_step
        rw [wrap_succ (by omega)]
        exact ih
      by_cases hki : k < i
      · have e1 : min (k + 1) i = k + 1 := by omega
        have e2 : b ∈ x0.take (k + 1) := by rw [htk]; simp
        rw [e1] at key
        simp only [e2, decide_true] at key
        split
        · exact key
        · rw [show decide ((k : Int) < (i : Int)) = true from by simp; omega]; exact key
      · have e1 : min (k + 1) i = i := by omega
        have e2 : min k i = i := by omega
        rw [e1] at key
        rw [e2]
        split
        · rename_i h3; rw [h3] at key; exact key
        · rename_i h3
          have h4 : decide (b ∈ x0.take i) = false := by simpa using h3
          rw [h4] at key
          rw [show decide ((k : Int) < (i : Int)) = false from by simp; omega]; exact key
    · rename_i hba
      rw [if_neg hba] at ih
      apply L3_step
      rw [wrap_succ (by omega)]
      have e : decide (a ∈ x0.take (min (k + 1) i)) = decide (a ∈ x0.take (min k i)) := by
        by_cases hki : k < i
        · have e1 : min (k + 1) i = k + 1 := by omega
          have e2 : min k i = k := by omega
          rw [e1, e2, htk]
          simp only [List.mem_append, List.mem_singleton, Ne.symm hba, or_false]
        · have e1 : min (k + 1) i = i := by omega
          have e2 : min k i = i := by omega
          rw [e1, e2]
      rw [e] at ih
      exact ih
theorem outer {x0 : List Int} {φ : api_Partition → Prop} (hn : x0.length ≤ 10000) : ∀ (r : List Int) (i : Nat), x0.drop i = r → φ ⟨x0.length, grpF x0⟩ →
    L1 x0 (((fsts (x0.take i)).map (cls x0)).filter fun c => decide (2 ≤ c.length)) i φ
  | [], i, hd, h => by
    apply L1_step
    have hk := drop_ge hd
    rw [if_neg (by omega), List.take_of_length_le hk]
    exact h
  | a :: r, i, hd, h => by
    apply L1_step
    have hk := drop_lt hd
    rw [if_pos (by omega)]
    have htk : x0.take (i + 1) = x0.take i ++ [a] := by rw [List.take_add_one, drop_get hd]; rfl
    have ih := outer hn r (i + 1) (drop_next hd) h
    rw [htk, fsts_snoc] at ih
    have hle : ∀ l : List Int, (fsts l).length ≤ l.length := by
      intro l
      refine list_snoc_ind (p := fun l => (fsts l).length ≤ l.length) (by simp [fsts]) (fun l b ih => ?_) l
      rw [fsts_snoc]
      split
      · simp; omega
      · simp; omega
    have := inner (φ := φ) (cs := ((fsts (x0.take i)).map (cls x0)).filter fun c => decide (2 ≤ c.length)) hn (by
      refine Nat.le_trans (List.length_filter_le _ _) ?_
      rw [List.length_map]
      have := hle (x0.take i)
      rw [List.length_take] at this; omega) (drop_get hd) x0 0 rfl
    rw [List.take_zero, Nat.zero_min, List.take_zero] at this
    refine this ?_
    have next : ∀ cs, L1 x0 cs ((i + 1 : Nat) : Int) φ → L4 x0 cs i φ := fun cs hc => by
      apply L4_step
      rw [wrap_succ (by omega)]
      exact hc
    split
    · rename_i h1
      rw [if_pos (mem_fsts.2 h1)] at ih
      exact next _ ih
    · rename_i h1
      rw [if_neg (fun h => h1 (mem_fsts.1 h)), List.map_append, List.filter_append] at ih
      split
      · rename_i h2
        refine next _ ?_
        simpa [h2] using ih
      · rename_i h2
        refine next _ ?_
        simpa [h2] using ih
theorem spec {x0 : List Int} (hn : x0.length ≤ 10000) : C x0 ⟨x0.length, grpF x0⟩ := by
  obtain ⟨r, h1, h2⟩ := enter x0 (fun r => r = ⟨x0.length, grpF x0⟩) (by
    have := outer (φ := fun r => r = ⟨x0.length, grpF x0⟩) hn x0 0 rfl rfl
    simpa [fsts] using this)
  rw [← h1]; exact h2
end drossref08_group
namespace drossref08_From
theorem loop {x0 : List Int} {φ : api_Partition → Prop} (hn : x0.length ≤ 10000) (hr : ∀ x ∈ x0, 0 ≤ x ∧ x < 256) : ∀ (r : List Int) (k : Nat), x0.drop k = r → φ ⟨x0.length, grpF x0⟩ → L1 x0 (x0.take k) k φ
  | [], k, hd, h => by
    apply L1_step
    have hk := drop_ge hd
    rw [if_neg (by omega), List.take_of_length_le hk]
    exact ⟨_, drossref08_group.spec hn, h⟩
  | a :: r, k, hd, h => by
    apply L1_step
    have hk := drop_lt hd
    rw [if_pos (by omega)]
    have ha := hr a (List.mem_of_getElem? (drop_get hd))
    refine ⟨a, lget_drop hd, by rw [List.length_take]; omega, ?_⟩
    have htk : x0.take (k + 1) = x0.take k ++ [a] := by rw [List.take_add_one, drop_get hd]; rfl
    rw [wrap_id (x := a) (by omega) (by omega), wrap_succ (by omega), ← htk]
    exact loop hn hr r (k + 1) (drop_next hd) h
theorem spec {x0 : List Int} (hn : x0.length ≤ 10000) (hr : ∀ x ∈ x0, 0 ≤ x ∧ x < 256) : C x0 ⟨x0.length, grpF x0⟩ := by
  obtain ⟨r, h1, h2⟩ := enter x0 (fun r => r = ⟨x0.length, grpF x0⟩) (loop hn hr x0 0 rfl rfl)
  rw [← h1]; exact h2
end drossref08_From
end Go.Own

namespace Go.Own
open Go.Proofs D
set_option maxRecDepth 100000
set_option maxHeartbeats 4000000
namespace partition_Product
noncomputable def B : Code := (Tryd.f20.body).getD .skip
def W : List Nat := [0, 1, 2, 3, 4, 5, 6, 7, 8, 9, 10, 15, 26, 27, 28]
def res (r : api_Partition × Int) : D × List D := (.tup [.agg [.lit (.int .i64 r.1.Rows), .sl (r.1.Classes.map (eSl (eI .i64)))], .lit (.int .i64 r.2)], [])
def C (x0 : api_Partition) (x1 : api_Partition) (r : api_Partition × Int) : Prop := Ret env 20 [.agg [.lit (.int .i64 x0.Rows), .sl (x0.Classes.map (eSl (eI .i64)))], .agg [.lit (.int .i64 x1.Rows), .sl (x1.Classes.map (eSl (eI .i64)))]] (res r).1 (res r).2
def L1 (x0 : api_Partition) (r3 : List Int) (r5 : List Int) (y9_L1 : List (Int × Int)) (y27_L1 : Int) (φ : api_Partition × Int → Prop) : Prop := Pt env 20 W B [1, 1, 1, 1, 0, 1, 0] [(0, .agg [.lit (.int .i64 x0.Rows), .sl (x0.Classes.map (eSl (eI .i64)))]), (2, .box [.lit (.int .i64 x0.Rows), .sl (x0.Classes.map (eSl (eI .i64)))]), (4, .box [.lit (.int .i64 0), .own []]), (7, .own (r3.map (eI .i64))), (8, .own (r5.map (eI .i64))), (9, .own (y9_L1.map enc_arr2_Int)), (26, .lit (.int .i64 (((List.replicate x0.Rows.toNat (⟨0, 0⟩ : (Int × Int))).length : Int)))), (27, .lit (.int .i64 y27_L1))] (Lv env 20 Tryd.f20 2 res φ)
theorem L1_step (x0 : api_Partition) (r3 : List Int) (r5 : List Int) (y9_L1 : List (Int × Int)) (y27_L1 : Int) (φ : api_Partition × Int → Prop) (h :
    (if y27_L1 < ((List.replicate x0.Rows.toNat (⟨0, 0⟩ : (Int × Int))).length : Int) then
      ∃ a8, lget r3 y27_L1 = some a8 ∧
      ∃ a10, lget r5 y27_L1 = some a10 ∧
      ∃ a12, lget y9_L1 y27_L1 = some a12 ∧
      partition_Product.L1 x0 r3 r5 ((lset y9_L1 y27_L1 ⟨a8, a10⟩)) ((IntKind.wrap .i64 (y27_L1 + 1))) φ
    else
      ∃ r14 : List (List Int), partition_groups_2_int.C y9_L1 r14 ∧
      φ (((⟨x0.Rows, r14⟩ : api_Partition), 0)))) : L1 x0 r3 r5 y9_L1 y27_L1 φ := by
  unfold L1
  refine Pt.loop (p' := [1, 1, 1, 1, 0, 1, 0, 0, 0]) (by kernel_rfl) (by kernel_rfl) ?_
  refine Pt.reg (by kernel_rfl) ?_
  refine AtO.bool (b := (decide (y27_L1 < ((List.replicate x0.Rows.toNat (⟨0, 0⟩ : (Int × Int))).length : Int)))) (by kernel_rfl) (by kernel_rfl) (fun hc => ?_) (fun hc => ?_)
  · have h := ite_t h (of_decide_eq_true hc)
    refine AtO.done (p' := [1, 1, 1, 1, 0, 1, 0, 0, 1, 0]) (F' := [(0, .agg [.lit (.int .i64 x0.Rows), .sl (x0.Classes.map (eSl (eI .i64)))]), (2, .box [.lit (.int .i64 x0.Rows), .sl (x0.Classes.map (eSl (eI .i64)))]), (4, .box [.lit (.int .i64 0), .own []]), (7, .own (r3.map (eI .i64))), (8, .own (r5.map (eI .i64))), (9, .own (y9_L1.map enc_arr2_Int)), (26, .lit (.int .i64 (((List.replicate x0.Rows.toNat (⟨0, 0⟩ : (Int × Int))).length : Int)))), (27, .lit (.int .i64 y27_L1)), (28, .lit (.bool true))]) (by kernel_rfl) (by kernel_rfl) (by kernel_rfl) ?_
    refine Pt.cond_t (p' := [1, 1, 1, 1, 0, 1, 0, 0, 1, 0, 0]) (F' := [(0, .agg [.lit (.int .i64 x0.Rows), .sl (x0.Classes.map (eSl (eI .i64)))]), (2, .box [.lit (.int .i64 x0.Rows), .sl (x0.Classes.map (eSl (eI .i64)))]), (4, .box [.lit (.int .i64 0), .own []]), (7, .own (r3.map (eI .i64))), (8, .own (r5.map (eI .i64))), (9, .own (y9_L1.map enc_arr2_Int)), (26, .lit (.int .i64 (((List.replicate x0.Rows.toNat (⟨0, 0⟩ : (Int × Int))).length : Int)))), (27, .lit (.int .i64 y27_L1))]) (y := (.tmp 28)) (by kernel_rfl) (by kernel_rfl) (by kernel_rfl) (by kernel_rfl) ?_
    refine Pt.skip (p' := [1, 1, 1, 1, 0, 1, 0, 0, 1, 1, 0, 0, 0]) (by kernel_rfl) (by kernel_rfl) ?_
    refine Pt.reg (by kernel_rfl) ?_
    refine AtO.seg 2 (by kernel_rfl) ?_
    refine AtO.done (p' := [1, 1, 1, 1, 0, 1, 0, 0, 1, 1, 0, 0, 1]) (F' := [(0, .agg [.lit (.int .i64 x0.Rows), .sl (x0.Classes.map (eSl (eI .i64)))]), (2, .box [.lit (.int .i64 x0.Rows), .sl (x0.Classes.map (eSl (eI .i64)))]), (4, .box [.lit (.int .i64 0), .own []]), (7, .own (r3.map (eI .i64))), (8, .own (r5.map (eI .i64))), (9, .own (y9_L1.map enc_arr2_Int)), (10, .lit (.int .i64 y27_L1)), (26, .lit (.int .i64 (((List.replicate x0.Rows.toNat (⟨0, 0⟩ : (Int × Int))).length : Int)))), (27, .lit (.int .i64 y27_L1))]) (by kernel_rfl) (by kernel_rfl) (by kernel_rfl) ?_
    refine Pt.reg (by kernel_rfl) ?_
    obtain ⟨a8, h9, h⟩ := h
    refine AtO.seg 4 (by kernel_rfl) ?_
    refine AtO.val (by kernel_rfl) (val_idx_ow (s := 7) (ps := []) (t := 38) (x := (.tmp 32)) (ix := (.tmp 33)) (et := 3) (k := 1) (e := (eI .i64)) (l := r3) (i := y27_L1) (q := .i64) (a := a8) (by kernel_rfl) (by kernel_rfl) (by kernel_rfl) (by kernel_rfl) (by kernel_rfl) (by kernel_rfl) h9 (by kernel_rfl)) ?_
    refine AtO.val (by kernel_rfl) (val_load_ow (t := 3) (x := (.tmp 34)) (s := 7) (ps := []) (n := (y27_L1.toNat)) (c := 0) (e := (eI .i64)) (l := r3) (a := a8) (d := .lit (.int .i64 a8)) (by kernel_rfl) (by kernel_rfl) (by kernel_rfl) (by kernel_rfl) (lget_some h9).2 (by kernel_rfl)) ?_
    obtain ⟨a10, h11, h⟩ := h
    refine AtO.seg 2 (by kernel_rfl) ?_
    refine AtO.val (by kernel_rfl) (val_idx_ow (s := 8) (ps := []) (t := 38) (x := (.tmp 36)) (ix := (.tmp 37)) (et := 3) (k := 1) (e := (eI .i64)) (l := r5) (i := y27_L1) (q := .i64) (a := a10) (by kernel_rfl) (by kernel_rfl) (by kernel_rfl) (by kernel_rfl) (by kernel_rfl) (by kernel_rfl) h11 (by kernel_rfl)) ?_
    refine AtO.val (by kernel_rfl) (val_load_ow (t := 3) (x := (.tmp 38)) (s := 8) (ps := []) (n := (y27_L1.toNat)) (c := 0) (e := (eI .i64)) (l := r5) (a := a10) (d := .lit (.int .i64 a10)) (by kernel_rfl) (by kernel_rfl) (by kernel_rfl) (by kernel_rfl) (lget_some h11).2 (by kernel_rfl)) ?_
    obtain ⟨a12, h13, h⟩ := h
    refine AtO.seg 1 (by kernel_rfl) ?_
    refine AtO.val (by kernel_rfl) (val_idx_ow (s := 9) (ps := []) (t := 73) (x := (.tmp 30)) (ix := (.tmp 31)) (et := 74) (k := 2) (e := enc_arr2_Int) (l := y9_L1) (i := y27_L1) (q := .i64) (a := a12) (by kernel_rfl) (by kernel_rfl) (by kernel_rfl) (by kernel_rfl) (by kernel_rfl) (by kernel_rfl) h13 (by kernel_rfl)) ?_
    refine AtO.op (by kernel_rfl) (store1 (t := 74) (x := (.tmp 41)) (y := (.tmp 40)) (s := 9) (ps := []) (n := (y27_L1.toNat)) (c := 0) (e := enc_arr2_Int) (l := y9_L1) (a := a12) (b := ⟨a8, a10⟩) (k := 2) (d := .agg [.lit (.int .i64 a8), .lit (.int .i64 a10)]) (by kernel_rfl) (by kernel_rfl) (by kernel_rfl) (by kernel_rfl) (lget_some h13).2 (by kernel_rfl) (by kernel_rfl) (by kernel_rfl) (by kernel_rfl) (by kernel_rfl) (setG_eq (by kernel_rfl))) ?_
    refine AtO.done (p' := [1, 1, 1, 1, 0, 1, 0, 0, 1, 1, 1]) (F' := [(0, .agg [.lit (.int .i64 x0.Rows), .sl (x0.Classes.map (eSl (eI .i64)))]), (2, .box [.lit (.int .i64 x0.Rows), .sl (x0.Classes.map (eSl (eI .i64)))]), (4, .box [.lit (.int .i64 0), .own []]), (7, .own (r3.map (eI .i64))), (8, .own (r5.map (eI .i64))), (9, .own (((lset y9_L1 y27_L1 ⟨a8, a10⟩)).map enc_arr2_Int)), (26, .lit (.int .i64 (((List.replicate x0.Rows.toNat (⟨0, 0⟩ : (Int × Int))).length : Int)))), (27, .lit (.int .i64 y27_L1))]) (by kernel_rfl) (by kernel_rfl) (by kernel_rfl) ?_
    refine Pt.reg (by kernel_rfl) ?_
    refine AtO.seg 2 (by kernel_rfl) ?_
    refine AtO.done (p' := [1, 1, 1, 1, 0, 1, 0]) (F' := [(0, .agg [.lit (.int .i64 x0.Rows), .sl (x0.Classes.map (eSl (eI .i64)))]), (2, .box [.lit (.int .i64 x0.Rows), .sl (x0.Classes.map (eSl (eI .i64)))]), (4, .box [.lit (.int .i64 0), .own []]), (7, .own (r3.map (eI .i64))), (8, .own (r5.map (eI .i64))), (9, .own (((lset y9_L1 y27_L1 ⟨a8, a10⟩)).map enc_arr2_Int)), (26, .lit (.int .i64 (((List.replicate x0.Rows.toNat (⟨0, 0⟩ : (Int × Int))).length : Int)))), (27, .lit (.int .i64 ((IntKind.wrap .i64 (y27_L1 + 1)))))]) (by kernel_rfl) (by kernel_rfl) (by kernel_rfl) ?_
    exact h
  · have h := ite_f h (of_decide_eq_false hc)
    refine AtO.done (p' := [1, 1, 1, 1, 0, 1, 0, 0, 1, 0]) (F' := [(0, .agg [.lit (.int .i64 x0.Rows), .sl (x0.Classes.map (eSl (eI .i64)))]), (2, .box [.lit (.int .i64 x0.Rows), .sl (x0.Classes.map (eSl (eI .i64)))]), (4, .box [.lit (.int .i64 0), .own []]), (7, .own (r3.map (eI .i64))), (8, .own (r5.map (eI .i64))), (9, .own (y9_L1.map enc_arr2_Int)), (26, .lit (.int .i64 (((List.replicate x0.Rows.toNat (⟨0, 0⟩ : (Int × Int))).length : Int)))), (27, .lit (.int .i64 y27_L1)), (28, .lit (.bool false))]) (by kernel_rfl) (by kernel_rfl) (by kernel_rfl) ?_
    refine Pt.cond_f (p' := [1, 1, 1, 1, 0, 1, 0, 0, 1, 0, 1]) (F' := [(0, .agg [.lit (.int .i64 x0.Rows), .sl (x0.Classes.map (eSl (eI .i64)))]), (2, .box [.lit (.int .i64 x0.Rows), .sl (x0.Classes.map (eSl (eI .i64)))]), (4, .box [.lit (.int .i64 0), .own []]), (9, .own (y9_L1.map enc_arr2_Int))]) (y := (.tmp 28)) (by kernel_rfl) (by kernel_rfl) (by kernel_rfl) (by kernel_rfl) ?_
    refine Pt.exit (p' := [1, 1, 1, 1, 1, 0]) (F' := [(0, .agg [.lit (.int .i64 x0.Rows), .sl (x0.Classes.map (eSl (eI .i64)))]), (2, .box [.lit (.int .i64 x0.Rows), .sl (x0.Classes.map (eSl (eI .i64)))]), (4, .box [.lit (.int .i64 0), .own []]), (9, .sl (y9_L1.map enc_arr2_Int))]) (by kernel_rfl) (by kernel_rfl) (trim_chillW (F0 := [(0, .agg [.lit (.int .i64 x0.Rows), .sl (x0.Classes.map (eSl (eI .i64)))]), (2, .box [.lit (.int .i64 x0.Rows), .sl (x0.Classes.map (eSl (eI .i64)))]), (4, .box [.lit (.int .i64 0), .own []]), (9, .own (y9_L1.map enc_arr2_Int))]) (l := y9_L1) (e := enc_arr2_Int) (e' := enc_arr2_Int) (s := 9) (by kernel_rfl) (by kernel_rfl) (by kernel_rfl) (fun _ => rfl) (by kernel_rfl) (by kernel_rfl)) ?_
    refine Pt.reg (by kernel_rfl) ?_
    obtain ⟨r14, h15, h⟩ := h
    refine AtO.seg 3 (by kernel_rfl) ?_
    refine AtO.callD (x := (.func 42)) (g := 42) (caps := []) (agl := [.opn (.tmp 45)]) (ds := [.sl (y9_L1.map enc_arr2_Int)]) (r := .sl (r14.map (eSl (eI .i64)))) (r' := .sl (r14.map (eSl (eI .i64)))) (by kernel_rfl) (by kernel_rfl) (by kernel_rfl) (by kernel_rfl) (by kernel_rfl) (pass_snap (a := .opn (.tmp 45)) (d0 := .sl (y9_L1.map enc_arr2_Int)) (d := .sl (y9_L1.map enc_arr2_Int)) (by kernel_rfl) (by kernel_rfl) (by kernel_rfl) pass_nil) h15 (by kernel_rfl) (by kernel_rfl) ?_
    refine AtO.seg 3 (by kernel_rfl) ?_
    refine AtO.done (p' := [1, 1, 1, 1, 1, 1]) (F' := [(4, .box [.lit (.int .i64 x0.Rows), .sl (r14.map (eSl (eI .i64)))]), (5, .lit (.int .i64 0))]) (by kernel_rfl) (by kernel_rfl) (by kernel_rfl) ?_
    exact Pt.ret (((⟨x0.Rows, r14⟩ : api_Partition), 0)) (by kernel_rfl) (by kernel_rfl) h
theorem enter (x0 : api_Partition) (x1 : api_Partition) (φ : api_Partition × Int → Prop) (h :
    ∃ r1 : Int, partition_both.C x0 x1 r1 ∧
    (if r1 = 0 then
      ∃ r3 : List Int, partition_labels.C x0 r3 ∧
      ∃ r5 : List Int, partition_labels.C x1 r5 ∧
      (0 ≤ x0.Rows ∧ x0.Rows * 16 ≤ 281474976710656) ∧
      partition_Product.L1 x0 r3 r5 ((List.replicate x0.Rows.toNat (⟨0, 0⟩ : (Int × Int)))) 0 φ
    else
      φ (((⟨0, []⟩ : api_Partition), r1)))) : ∃ r, φ r ∧ C x0 x1 r := by
  refine Ret.of_at (E := env) (f := 20) (fd := Tryd.f20) (body := B) (p := [0]) (V := W) (F := [(0, .agg [.lit (.int .i64 x0.Rows), .sl (x0.Classes.map (eSl (eI .i64)))]), (1, .agg [.lit (.int .i64 x1.Rows), .sl (x1.Classes.map (eSl (eI .i64)))]), (2, .undef), (3, .undef), (4, .undef), (5, .undef), (6, .undef), (7, .undef), (8, .undef), (9, .undef), (10, .undef), (15, .undef), (26, .undef), (27, .undef), (28, .undef)]) (res := res) (φ := φ) (ds := [.agg [.lit (.int .i64 x0.Rows), .sl (x0.Classes.map (eSl (eI .i64)))], .agg [.lit (.int .i64 x1.Rows), .sl (x1.Classes.map (eSl (eI .i64)))]]) (by kernel_rfl) (by kernel_rfl) (by kernel_rfl) ⟨Nat.le_of_ble_eq_true (by kernel_rfl), Nat.le_of_ble_eq_true (by kernel_rfl)⟩ (by kernel_rfl) (by kernel_rfl) (by kernel_rfl) ?_
  refine Pt.reg (by kernel_rfl) ?_
  refine AtO.seg 4 (by kernel_rfl) ?_
  refine AtO.done (p' := [1, 0, 0]) (F' := [(0, .agg [.lit (.int .i64 x0.Rows), .sl (x0.Classes.map (eSl (eI .i64)))]), (1, .agg [.lit (.int .i64 x1.Rows), .sl (x1.Classes.map (eSl (eI .i64)))]), (2, .box [.lit (.int .i64 x0.Rows), .sl (x0.Classes.map (eSl (eI .i64)))]), (3, .box [.lit (.int .i64 x1.Rows), .sl (x1.Classes.map (eSl (eI .i64)))]), (4, .box [.lit (.int .i64 0), .own []])]) (by kernel_rfl) (by kernel_rfl) (by kernel_rfl) ?_
  refine Pt.reg (by kernel_rfl) ?_
  obtain ⟨r1, h2, h⟩ := h
  refine AtO.seg 2 (by kernel_rfl) ?_
  refine AtO.call0 (x := (.func 40)) (g := 40) (caps := []) (agl := [.opn (.tmp 11), .opn (.tmp 12)]) (ds := [.agg [.lit (.int .i64 x0.Rows), .sl (x0.Classes.map (eSl (eI .i64)))], .agg [.lit (.int .i64 x1.Rows), .sl (x1.Classes.map (eSl (eI .i64)))]]) (r := .lit (.int .i64 r1)) (r' := .lit (.int .i64 r1)) (ms := [none, none]) (by kernel_rfl) (by kernel_rfl) (by kernel_rfl) (by kernel_rfl) (by kernel_rfl) (by kernel_rfl) (pass_snap (a := .opn (.tmp 11)) (d0 := .agg [.lit (.int .i64 x0.Rows), .sl (x0.Classes.map (eSl (eI .i64)))]) (d := .agg [.lit (.int .i64 x0.Rows), .sl (x0.Classes.map (eSl (eI .i64)))]) (by kernel_rfl) (by kernel_rfl) (by kernel_rfl) (pass_snap (a := .opn (.tmp 12)) (d0 := .agg [.lit (.int .i64 x1.Rows), .sl (x1.Classes.map (eSl (eI .i64)))]) (d := .agg [.lit (.int .i64 x1.Rows), .sl (x1.Classes.map (eSl (eI .i64)))]) (by kernel_rfl) (by kernel_rfl) (by kernel_rfl) pass_nil)) h2 rfl (by kernel_rfl) ?_
  refine AtO.seg 1 (by kernel_rfl) ?_
  refine AtO.done (p' := [1, 0, 1, 0]) (F' := [(0, .agg [.lit (.int .i64 x0.Rows), .sl (x0.Classes.map (eSl (eI .i64)))]), (1, .agg [.lit (.int .i64 x1.Rows), .sl (x1.Classes.map (eSl (eI .i64)))]), (2, .box [.lit (.int .i64 x0.Rows), .sl (x0.Classes.map (eSl (eI .i64)))]), (3, .box [.lit (.int .i64 x1.Rows), .sl (x1.Classes.map (eSl (eI .i64)))]), (4, .box [.lit (.int .i64 0), .own []]), (6, .lit (.int .i64 r1))]) (by kernel_rfl) (by kernel_rfl) (by kernel_rfl) ?_
  refine Pt.reg (by kernel_rfl) ?_
  refine AtO.seg 1 (by kernel_rfl) ?_
  refine AtO.bool (b := (r1 != 0)) (by kernel_rfl) (by kernel_rfl) (fun hc => ?_) (fun hc => ?_)
  · have h := ite_f h (bne_t hc)
    refine AtO.done (p' := [1, 0, 1, 1]) (F' := [(0, .agg [.lit (.int .i64 x0.Rows), .sl (x0.Classes.map (eSl (eI .i64)))]), (1, .agg [.lit (.int .i64 x1.Rows), .sl (x1.Classes.map (eSl (eI .i64)))]), (2, .box [.lit (.int .i64 x0.Rows), .sl (x0.Classes.map (eSl (eI .i64)))]), (3, .box [.lit (.int .i64 x1.Rows), .sl (x1.Classes.map (eSl (eI .i64)))]), (4, .box [.lit (.int .i64 0), .own []]), (6, .lit (.int .i64 r1)), (15, .lit (.bool true))]) (by kernel_rfl) (by kernel_rfl) (by kernel_rfl) ?_
    refine Pt.cond_t (p' := [1, 0, 1, 1, 0, 0]) (F' := [(4, .box [.lit (.int .i64 0), .own []]), (6, .lit (.int .i64 r1))]) (y := (.tmp 15)) (by kernel_rfl) (by kernel_rfl) (by kernel_rfl) (by kernel_rfl) ?_
    refine Pt.reg (by kernel_rfl) ?_
    refine AtO.seg 4 (by kernel_rfl) ?_
    refine AtO.done (p' := [1, 0, 1, 1, 0, 1]) (F' := [(4, .box [.lit (.int .i64 0), .sl []]), (5, .lit (.int .i64 r1))]) (by kernel_rfl) (by kernel_rfl) (by kernel_rfl) ?_
    exact Pt.ret (((⟨0, []⟩ : api_Partition), r1)) (by kernel_rfl) (by kernel_rfl) h
  · have h := ite_t h (bne_f hc)
    refine AtO.done (p' := [1, 0, 1, 1]) (F' := [(0, .agg [.lit (.int .i64 x0.Rows), .sl (x0.Classes.map (eSl (eI .i64)))]), (1, .agg [.lit (.int .i64 x1.Rows), .sl (x1.Classes.map (eSl (eI .i64)))]), (2, .box [.lit (.int .i64 x0.Rows), .sl (x0.Classes.map (eSl (eI .i64)))]), (3, .box [.lit (.int .i64 x1.Rows), .sl (x1.Classes.map (eSl (eI .i64)))]), (4, .box [.lit (.int .i64 0), .own []]), (6, .lit (.int .i64 r1)), (15, .lit (.bool false))]) (by kernel_rfl) (by kernel_rfl) (by kernel_rfl) ?_
    refine Pt.cond_f (p' := [1, 0, 1, 1, 1]) (F' := [(0, .agg [.lit (.int .i64 x0.Rows), .sl (x0.Classes.map (eSl (eI .i64)))]), (1, .agg [.lit (.int .i64 x1.Rows), .sl (x1.Classes.map (eSl (eI .i64)))]), (2, .box [.lit (.int .i64 x0.Rows), .sl (x0.Classes.map (eSl (eI .i64)))]), (3, .box [.lit (.int .i64 x1.Rows), .sl (x1.Classes.map (eSl (eI .i64)))]), (4, .box [.lit (.int .i64 0), .own []])]) (y := (.tmp 15)) (by kernel_rfl) (by kernel_rfl) (by kernel_rfl) (by kernel_rfl) ?_
    refine Pt.skip (p' := [1, 1, 0]) (by kernel_rfl) (by kernel_rfl) ?_
    refine Pt.reg (by kernel_rfl) ?_
    obtain ⟨r3, h4, h⟩ := h
    refine AtO.seg 1 (by kernel_rfl) ?_
    refine AtO.callD (x := (.func 41)) (g := 41) (caps := []) (agl := [.opn (.tmp 18)]) (ds := [.agg [.lit (.int .i64 x0.Rows), .sl (x0.Classes.map (eSl (eI .i64)))]]) (r := .own (r3.map (eI .i64))) (r' := .own (r3.map (eI .i64))) (by kernel_rfl) (by kernel_rfl) (by kernel_rfl) (by kernel_rfl) (by kernel_rfl) (pass_snap (a := .opn (.tmp 18)) (d0 := .agg [.lit (.int .i64 x0.Rows), .sl (x0.Classes.map (eSl (eI .i64)))]) (d := .agg [.lit (.int .i64 x0.Rows), .sl (x0.Classes.map (eSl (eI .i64)))]) (by kernel_rfl) (by kernel_rfl) (by kernel_rfl) pass_nil) h4 (by rw [(flat_ow (e := (eI .i64)) (fun _ => rfl))]; rfl) (by kernel_rfl) ?_
    obtain ⟨r5, h6, h⟩ := h
    refine AtO.seg 1 (by kernel_rfl) ?_
    refine AtO.call0 (x := (.func 41)) (g := 41) (caps := []) (agl := [.opn (.tmp 20)]) (ds := [.agg [.lit (.int .i64 x1.Rows), .sl (x1.Classes.map (eSl (eI .i64)))]]) (r := .own (r5.map (eI .i64))) (r' := .own (r5.map (eI .i64))) (ms := [none]) (by kernel_rfl) (by kernel_rfl) (by kernel_rfl) (by kernel_rfl) (by kernel_rfl) (by kernel_rfl) (pass_snap (a := .opn (.tmp 20)) (d0 := .agg [.lit (.int .i64 x1.Rows), .sl (x1.Classes.map (eSl (eI .i64)))]) (d := .agg [.lit (.int .i64 x1.Rows), .sl (x1.Classes.map (eSl (eI .i64)))]) (by kernel_rfl) (by kernel_rfl) (by kernel_rfl) pass_nil) h6 (flat_ow (e := (eI .i64)) (fun _ => rfl)) (by kernel_rfl) ?_
    refine AtO.seg 2 (by kernel_rfl) ?_
    refine AtO.done (p' := [1, 1, 1, 0]) (F' := [(0, .agg [.lit (.int .i64 x0.Rows), .sl (x0.Classes.map (eSl (eI .i64)))]), (2, .box [.lit (.int .i64 x0.Rows), .sl (x0.Classes.map (eSl (eI .i64)))]), (4, .box [.lit (.int .i64 0), .own []]), (7, .own (r3.map (eI .i64))), (8, .own (r5.map (eI .i64)))]) (by kernel_rfl) (by kernel_rfl) (by kernel_rfl) ?_
    refine Pt.reg (by kernel_rfl) ?_
    obtain ⟨h7, h⟩ := h
    refine AtO.seg 2 (by kernel_rfl) ?_
    refine AtO.val (by kernel_rfl) (val_make (t := 73) (x := (.tmp 23)) (y := (.tmp 23)) (q := .i64) (i := x0.Rows) (et := 74) (z := .agg [.lit (.int .i64 0), .lit (.int .i64 0)]) (e := enc_arr2_Int) (a := (⟨0, 0⟩ : (Int × Int))) (k := 16) (by kernel_rfl) (by kernel_rfl) (by kernel_rfl) (by kernel_rfl) (by kernel_rfl) (by kernel_rfl) (by kernel_rfl) (by kernel_rfl) (by kernel_rfl) (by kernel_rfl) h7.1 h7.2) ?_
    refine AtO.seg 1 (by kernel_rfl) ?_
    refine AtO.done (p' := [1, 1, 1, 1, 0, 0]) (F' := [(0, .agg [.lit (.int .i64 x0.Rows), .sl (x0.Classes.map (eSl (eI .i64)))]), (2, .box [.lit (.int .i64 x0.Rows), .sl (x0.Classes.map (eSl (eI .i64)))]), (4, .box [.lit (.int .i64 0), .own []]), (7, .own (r3.map (eI .i64))), (8, .own (r5.map (eI .i64))), (9, .own (((List.replicate x0.Rows.toNat (⟨0, 0⟩ : (Int × Int)))).map enc_arr2_Int))]) (by kernel_rfl) (by kernel_rfl) (by kernel_rfl) ?_
    refine Pt.reg (by kernel_rfl) ?_
    refine AtO.seg 1 (by kernel_rfl) ?_
    refine AtO.val (by kernel_rfl) (val_len (x := (.tmp 25)) (t := 73) (et := 74) (d := .alias 9 []) (e := enc_arr2_Int) (l := (List.replicate x0.Rows.toNat (⟨0, 0⟩ : (Int × Int)))) (by kernel_rfl) (by kernel_rfl) (elemsOf_ow (by kernel_rfl)) (by kernel_rfl)) ?_
    refine AtO.seg 1 (by kernel_rfl) ?_
    refine AtO.done (p' := [1, 1, 1, 1, 0, 1, 0]) (F' := [(0, .agg [.lit (.int .i64 x0.Rows), .sl (x0.Classes.map (eSl (eI .i64)))]), (2, .box [.lit (.int .i64 x0.Rows), .sl (x0.Classes.map (eSl (eI .i64)))]), (4, .box [.lit (.int .i64 0), .own []]), (7, .own (r3.map (eI .i64))), (8, .own (r5.map (eI .i64))), (9, .own (((List.replicate x0.Rows.toNat (⟨0, 0⟩ : (Int × Int)))).map enc_arr2_Int)), (26, .lit (.int .i64 (((List.replicate x0.Rows.toNat (⟨0, 0⟩ : (Int × Int))).length : Int)))), (27, .lit (.int .i64 0))]) (by kernel_rfl) (by kernel_rfl) (by kernel_rfl) ?_
    exact h
end partition_Product
end Go.Own

namespace Go.Own
theorem partition_groups_2_int_1.spec {c : List Int} : partition_groups_2_int_1.C c (decide ((c.length : Int) < 2)) := by
  obtain ⟨r, h1, h2⟩ := partition_groups_2_int_1.enter c (fun r => r = decide ((c.length : Int) < 2)) rfl
  rw [← h1]; exact h2
def keepC (c : List Int) : Bool := decide (2 ≤ c.length)
theorem keepC_iff {c : List Int} : decide ((c.length : Int) < 2) = !keepC c := by
  unfold keepC
  by_cases h : (c.length : Int) < 2
  · have : ¬ 2 ≤ c.length := by omega
    simp [h, this]
  · have : 2 ≤ c.length := by omega
    simp [h, this]
def firstOut : List (List Int) → Nat → Int
  | [], _ => -1
  | c :: cs, k => if keepC c then firstOut cs (k + 1) else (k : Int)
namespace slices_IndexFunc_ssint_sint_v1
theorem loop {x0 : List (List Int)} {φ : Int → Prop} (hn : x0.length < Big) : ∀ (r : List (List Int)) (k : Nat), x0.drop k = r → φ (firstOut r k) → L1 x0 k φ
  | [], k, hd, h => by
    apply L1_step
    have := drop_ge hd
    rw [if_neg (by omega)]
    exact h
  | c :: r, k, hd, h => by
    apply L1_step
    have hk := drop_lt hd
    rw [if_pos (by omega)]
    refine ⟨c, lget_drop hd, _, partition_groups_2_int_1.spec, ?_⟩
    rw [keepC_iff]
    simp only [firstOut] at h
    split
    · rename_i h1
      have : keepC c = false := by simpa using h1
      rw [this] at h; exact h
    · rename_i h1
      have : keepC c = true := by simpa using h1
      rw [this] at h
      rw [wrap_succ (by unfold Big at hn; omega)]
      exact loop hn r (k + 1) (drop_next hd) h
theorem spec {x0 : List (List Int)} (hn : x0.length < Big) : C x0 (firstOut x0 0) := by
  obtain ⟨r, h1, h2⟩ := enter x0 (fun r => r = firstOut x0 0) (loop hn x0 0 rfl rfl)
  rw [← h1]; exact h2
end slices_IndexFunc_ssint_sint_v1
theorem firstOut_spec : ∀ {l : List (List Int)} {k : Nat}, (firstOut l k = -1 ∧ ∀ c ∈ l, keepC c = true) ∨ ∃ n : Nat, firstOut l k = ((k + n : Nat) : Int) ∧ n < l.length ∧ (∀ c ∈ l.take n, keepC c = true) ∧ ∃ c, l[n]? = some c ∧ keepC c = false
  | [], _ => .inl ⟨rfl, by simp⟩
  | c :: l, k => by
    simp only [firstOut]
    cases hc : keepC c with
    | false => exact .inr ⟨0, by simp, by simp, by simp, c, rfl, hc⟩
    | true =>
      simp only [if_true]
      rcases firstOut_spec (l := l) (k := k + 1) with ⟨h1, h2⟩ | ⟨n, h1, h2, h3, h4⟩
      · exact .inl ⟨h1, by simpa [hc] using h2⟩
      · refine .inr ⟨n + 1, by rw [h1]; congr 1; omega, by simpa using h2, by simpa [hc] using h3, by simpa using h4⟩
namespace slices_DeleteFunc_ssint_sint_v1
theorem loop {x0 : List (List Int)} {φ : List (List Int) × Bool → Prop} (hn : x0.length < Big) (hφ : ∀ b, φ (x0.filter keepC, b)) : ∀ (r : List (List Int)) (k j : Nat) (l : List (List Int)), x0.drop k = r → l.length = x0.length → l.drop k = x0.drop k → l.take j = (x0.take k).filter keepC → j ≤ k → k ≤ x0.length → L1 l j k φ
  | [], k, j, l, hd, hl, h1, h2, h3, h4 => by
    apply L1_step
    have hk := drop_ge hd
    rw [if_neg (by omega)]
    refine ⟨by omega, ⟨by omega, by omega⟩, by omega, by omega, by omega, by omega, ⟨by omega, by omega, by omega⟩, ?_⟩
    rw [Int.toNat_natCast, h2, List.take_of_length_le hk]
    exact hφ _
  | c :: r, k, j, l, hd, hl, h1, h2, h3, h4 => by
    apply L1_step
    have hk := drop_lt hd
    rw [if_pos (by omega)]
    have hlk : l.drop k = c :: r := by rw [h1, hd]
    refine ⟨c, lget_drop hlk, _, partition_groups_2_int_1.spec, ?_⟩
    rw [keepC_iff]
    have htk : x0.take (k + 1) = x0.take k ++ [c] := by rw [List.take_add_one, drop_get hd]; rfl
    split
    · rename_i hc
      have hc : keepC c = false := by simpa using hc
      apply L2_step
      rw [wrap_succ (by unfold Big at hn; omega)]
      refine loop hn hφ r (k + 1) j l (drop_next hd) hl ?_ ?_ (by omega) (by omega)
      · rw [drop_next hlk, drop_next hd]
      · rw [htk, List.filter_append, h2]; simp [hc]
    · rename_i hc
      have hc : keepC c = true := by simpa using hc
      obtain ⟨a, ha⟩ := lget_lt (l := l) (i := (j : Int)) (by omega) (by omega)
      refine ⟨a, ha, ?_⟩
      apply L2_step
      rw [wrap_succ (by unfold Big at hn; omega), wrap_succ (by unfold Big at hn; omega)]
      have hs : lset l (j : Int) c = l.set j c := by simp [lset]
      rw [hs]
      refine loop hn hφ r (k + 1) (j + 1) (l.set j c) (drop_next hd) (by simp [hl]) ?_ ?_ (by omega) (by omega)
      · rw [List.drop_set_of_lt (by omega), drop_next hlk, drop_next hd]
      · rw [htk, List.filter_append, ← h2, List.take_add_one]
        have e1 : (l.set j c)[j]? = some c := by rw [List.getElem?_set_self (by omega)]
        rw [e1, List.take_set_of_le (by omega)]
        simp [hc]
theorem spec {x0 : List (List Int)} (hn : x0.length < Big) : ∃ b, C x0 (x0.filter keepC, b) := by
  obtain ⟨r, h1, h2⟩ := enter x0 (fun r => r.1 = x0.filter keepC) (by
    refine ⟨_, slices_IndexFunc_ssint_sint_v1.spec hn, ?_⟩
    rcases firstOut_spec (l := x0) (k := 0) with ⟨h1, h2⟩ | ⟨n, h1, h2, h3, c, h4, h5⟩
    · rw [if_pos h1]
      exact (List.filter_eq_self.2 h2).symm
    · rw [if_neg (by omega), h1, Nat.zero_add, wrap_succ (by unfold Big at hn; omega)]
      refine loop (φ := fun r => r.1 = x0.filter keepC) hn (fun b => rfl) _ (n + 1) n x0 rfl rfl rfl ?_ (by omega) (by omega)
      have htk : x0.take (n + 1) = x0.take n ++ [c] := by rw [List.take_add_one, h4]; rfl
      rw [htk, List.filter_append, List.filter_eq_self.2 h3]
      simp [h5])
  obtain ⟨l, b⟩ := r
  simp only at h1
  subst h1
  exact ⟨b, h2⟩
end slices_DeleteFunc_ssint_sint_v1
def ixn {α : Type} [DecidableEq α] : List α → α → Nat
  | [], _ => 0
  | b :: l, a => if b = a then 0 else ixn l a + 1
theorem ixn_lt {α : Type} [DecidableEq α] {a : α} : ∀ {l : List α}, a ∈ l → ixn l a < l.length
  | [], h => by cases h
  | b :: l, h => by
    simp only [ixn, List.length_cons]
    split
    · omega
    · rename_i hb
      have := ixn_lt (l := l) (a := a) ((List.mem_cons.1 h).resolve_left fun h => hb h.symm)
      omega
theorem ixn_get {α : Type} [DecidableEq α] {a : α} : ∀ {l : List α}, a ∈ l → l[ixn l a]? = some a
  | [], h => by cases h
  | b :: l, h => by
    simp only [ixn]
    split
    · rename_i hb; subst hb; rfl
    · rename_i hb
      rw [List.getElem?_cons_succ]
      exact ixn_get ((List.mem_cons.1 h).resolve_left fun h => hb h.symm)
theorem ixn_in {α : Type} [DecidableEq α] {a : α} : ∀ {l m : List α}, a ∈ l → ixn (l ++ m) a = ixn l a
  | [], _, h => by cases h
  | b :: l, m, h => by
    simp only [List.cons_append, ixn]
    split
    · rfl
    · rename_i hb
      rw [ixn_in ((List.mem_cons.1 h).resolve_left fun h => hb h.symm)]
theorem idx_snoc {α : Type} [DecidableEq α] {a : α} : ∀ {l : List α}, a ∉ l → ixn (l ++ [a]) a = l.length
  | [], _ => by simp [ixn]
  | b :: l, h => by
    simp only [List.mem_cons, not_or] at h
    simp only [List.cons_append, ixn, if_neg (Ne.symm h.1), List.length_cons]
    rw [idx_snoc h.2]
theorem ixn_uniq {α : Type} [DecidableEq α] {a : α} : ∀ {l : List α} {q : Nat}, l.Nodup → l[q]? = some a → ixn l a = q
  | [], q, _, h => by simp at h
  | b :: l, 0, _, h => by
    simp only [List.getElem?_cons_zero, Option.some.injEq] at h
    simp [ixn, h]
  | b :: l, q + 1, hl, h => by
    simp only [List.getElem?_cons_succ] at h
    have hn := List.nodup_cons.1 hl
    have : b ≠ a := fun hb => hn.1 (hb ▸ List.mem_of_getElem? h)
    simp only [ixn, if_neg this, ixn_uniq hn.2 h]
def ixOf {α : Type} [DecidableEq α] (m : List (α × Int)) (ks : List α) : Prop := ∀ a, mget a m = if a ∈ ks then some ((ixn ks a : Nat) : Int) else none
theorem mget_mset {κ ν : Type} [DecidableEq κ] {k k' : κ} {v : ν} : ∀ {l : List (κ × ν)}, mget k' (mset k v l) = if k = k' then some v else mget k' l
  | [] => by
    by_cases h : k = k'
    · subst h; simp [mset, mget]
    · simp [mset, mget, h, Ne.symm h]
  | (a, b) :: l => by
    have ih := mget_mset (k := k) (k' := k') (v := v) (l := l)
    simp only [mset]
    by_cases h1 : k = a
    · subst h1
      simp only [if_true, mget]
      by_cases h2 : k' = k
      · subst h2; simp
      · simp [h2, Ne.symm h2]
    · simp only [if_neg h1, mget]
      by_cases h2 : k' = a
      · subst h2; simp [h1]
      · simp only [if_neg h2]; exact ih
namespace partition_groups_2_int
theorem loop {x0 : List (Int × Int)} {φ : List (List Int) → Prop} (hn : x0.length ≤ 10000) (hφ : φ (grpF x0)) : ∀ (r : List (Int × Int)) (k : Nat) (m : List ((Int × Int) × Int)), x0.drop k = r → ixOf m (fsts (x0.take k)) → L1 x0 m ((fsts (x0.take k)).map (cls (x0.take k))) k φ
  | [], k, m, hd, hm => by
    apply L1_step
    have hk := drop_ge hd
    rw [if_neg (by omega), List.take_of_length_le hk]
    have hlen : ((fsts x0).map (cls x0)).length < Big := by
      rw [List.length_map]
      have : ∀ l : List (Int × Int), (fsts l).length ≤ l.length := by
        intro l
        refine list_snoc_ind (p := fun l => (fsts l).length ≤ l.length) (by simp [fsts]) (fun l b ih => ?_) l
        rw [fsts_snoc]
        split
        · simp; omega
        · simp; omega
      have := this x0
      unfold Big; omega
    obtain ⟨b, hb⟩ := slices_DeleteFunc_ssint_sint_v1.spec hlen
    exact ⟨_, hb, hφ⟩
  | a :: r, k, m, hd, hm => by
    apply L1_step
    have hk := drop_lt hd
    rw [if_pos (by omega)]
    refine ⟨a, lget_drop hd, ?_⟩
    have htk : x0.take (k + 1) = x0.take k ++ [a] := by rw [List.take_add_one, drop_get hd]; rfl
    have hlen : (x0.take k).length = k := by rw [List.length_take]; omega
    have hle : (fsts (x0.take k)).length ≤ 10000 := by
      have : ∀ l : List (Int × Int), (fsts l).length ≤ l.length := by
        intro l
        refine list_snoc_ind (p := fun l => (fsts l).length ≤ l.length) (by simp [fsts]) (fun l b ih => ?_) l
        rw [fsts_snoc]
        split
        · simp; omega
        · simp; omega
      have := this (x0.take k)
      omega
    have hcl : ∀ b, (cls (x0.take k) b).length ≤ 10000 := fun b => by
      unfold cls
      rw [List.length_map]
      exact Nat.le_trans (List.length_filter_le _ _) (by simp; omega)
    by_cases ha : a ∈ fsts (x0.take k)
    · have hg : mget a m = some ((ixn (fsts (x0.take k)) a : Nat) : Int) := by rw [hm a, if_pos ha]
      rw [if_pos (by simp [mhas, hg])]
      apply L2_step
      have hi : ixn (fsts (x0.take k)) a < (fsts (x0.take k)).length := ixn_lt ha
      have hgd : mgetD a m 0 = ((ixn (fsts (x0.take k)) a : Nat) : Int) := by simp [mgetD, hg]
      rw [hgd]
      refine ⟨cls (x0.take k) a, ?_, by have := hcl a; omega, ?_⟩
      · rw [lget_nat, List.getElem?_map, ixn_get ha]; rfl
      · rw [wrap_succ (by omega)]
        have ih := loop hn hφ r (k + 1) m (drop_next hd) (by rw [htk, fsts_snoc, if_pos ha]; exact hm)
        rw [htk, fsts_snoc, if_pos ha] at ih
        have e : (fsts (x0.take k)).map (cls (x0.take k ++ [a])) = lset ((fsts (x0.take k)).map (cls (x0.take k))) ((ixn (fsts (x0.take k)) a : Nat) : Int) (cls (x0.take k) a ++ [(k : Int)]) := by
          unfold lset
          rw [Int.toNat_natCast]
          apply List.ext_getElem?
          intro q
          rw [List.getElem?_map, List.getElem?_set, List.getElem?_map, List.length_map]
          by_cases hq : ixn (fsts (x0.take k)) a = q
          · subst hq
            rw [if_pos rfl, if_pos hi, ixn_get ha]
            simp [cls_snoc, hlen]
          · rw [if_neg hq]
            cases hv : (fsts (x0.take k))[q]? with
            | none => rfl
            | some b =>
              simp only [Option.map_some, Option.some.injEq]
              rw [cls_snoc, if_neg]
              rintro rfl
              exact hq (ixn_uniq fsts_nodup hv)
        rw [e] at ih
        exact ih
    · have hg : mget a m = none := by rw [hm a, if_neg ha]
      rw [if_neg (by simp [mhas, hg])]
      have hal : a ∉ x0.take k := fun h => ha (mem_fsts.2 h)
      refine ⟨by rw [List.length_map]; omega, ?_⟩
      apply L2_step
      refine ⟨[], ?_, by simp, ?_⟩
      · rw [lget_nat, List.getElem?_append_right (Nat.le_refl _)]; simp
      · rw [wrap_succ (by omega), List.length_map]
        have ih := loop hn hφ r (k + 1) (mset a ((fsts (x0.take k)).length : Int) m) (drop_next hd) (by
          rw [htk, fsts_snoc, if_neg ha]
          intro b
          rw [mget_mset]
          by_cases hab : a = b
          · subst hab
            rw [if_pos rfl, if_pos (by simp), idx_snoc ha]
          · rw [if_neg hab, hm b]
            have : b ∈ fsts (x0.take k) ++ [a] ↔ b ∈ fsts (x0.take k) := by simp [Ne.symm hab]
            by_cases hb : b ∈ fsts (x0.take k)
            · rw [if_pos hb, if_pos (this.2 hb), ixn_in hb]
            · rw [if_neg hb, if_neg (fun h => hb (this.1 h))])
        rw [htk, fsts_snoc, if_neg ha] at ih
        have e : (fsts (x0.take k) ++ [a]).map (cls (x0.take k ++ [a])) = lset ((fsts (x0.take k)).map (cls (x0.take k)) ++ [[]]) ((fsts (x0.take k)).length : Int) ([] ++ [(k : Int)]) := by
          unfold lset
          rw [Int.toNat_natCast, List.set_append_right _ _ (by simp), List.length_map, Nat.sub_self, List.set_cons_zero, List.map_append]
          congr 1
          · refine List.map_congr_left fun b hb => ?_
            rw [cls_snoc, if_neg]
            rintro rfl; exact ha hb
          · simp [cls_snoc, cls_out hal, hlen]
        rw [e] at ih
        exact ih
theorem spec {x0 : List (Int × Int)} (hn : x0.length ≤ 10000) : C x0 (grpF x0) := by
  obtain ⟨r, h1, h2⟩ := enter x0 (fun r => r = grpF x0) (by
    have := loop (φ := fun r => r = grpF x0) hn rfl x0 0 [] rfl (by intro a; simp [mget, fsts])
    simpa [fsts] using this)
  rw [← h1]; exact h2
end partition_groups_2_int
def zipL (l m : List Int) : List (Int × Int) := l.zip m
def prodF (a b : api_Partition) : api_Partition × Int := if bothF a b = 0 then (⟨a.Rows, grpF (zipL (labN a) (labN b))⟩, 0) else (⟨0, []⟩, bothF a b)
namespace partition_Product
theorem loop {x0 : api_Partition} {l m : List Int} {φ : api_Partition × Int → Prop} (h0 : 0 ≤ x0.Rows) (h1 : x0.Rows ≤ 1000) (hl : l.length = x0.Rows.toNat) (hm : m.length = x0.Rows.toNat) (hφ : φ (⟨x0.Rows, grpF (zipL l m)⟩, 0)) : ∀ (n k : Nat), k + n = x0.Rows.toNat → L1 x0 l m ((zipL l m).take k ++ List.replicate n (0, 0)) k φ
  | 0, k, hk => by
    apply L1_step
    rw [if_neg (by simp; omega)]
    have hz : (zipL l m).length = x0.Rows.toNat := by simp [zipL, hl, hm]
    rw [List.take_of_length_le (by omega), List.replicate_zero, List.append_nil]
    exact ⟨_, partition_groups_2_int.spec (by omega), hφ⟩
  | n + 1, k, hk => by
    apply L1_step
    have hz : (zipL l m).length = x0.Rows.toNat := by simp [zipL, hl, hm]
    rw [if_pos (by simp; omega)]
    have hlk := List.getElem?_eq_getElem (l := l) (i := k) (by omega)
    have hmk := List.getElem?_eq_getElem (l := m) (i := k) (by omega)
    have htl : ((zipL l m).take k).length = k := by rw [List.length_take]; omega
    refine ⟨l[k], by rw [lget_nat]; exact hlk, m[k], by rw [lget_nat]; exact hmk, (0, 0), ?_, ?_⟩
    · rw [lget_nat, List.getElem?_append_right (by omega), htl, Nat.sub_self, List.replicate_succ]; rfl
    · rw [wrap_succ (by omega)]
      have : lset ((zipL l m).take k ++ List.replicate (n + 1) (0, 0)) (k : Int) (l[k], m[k]) = (zipL l m).take (k + 1) ++ List.replicate n (0, 0) := by
        unfold lset
        rw [Int.toNat_natCast, List.set_append_right _ _ (by omega), htl, Nat.sub_self, List.replicate_succ, List.set_cons_zero, List.take_add_one]
        have : (zipL l m)[k]? = some (l[k], m[k]) := by
          unfold zipL
          rw [List.getElem?_zip_eq_some]
          exact ⟨hlk, hmk⟩
        rw [this]
        simp
      rw [this]
      exact loop h0 h1 hl hm hφ n (k + 1) (by omega)
theorem spec {a b : api_Partition} (ha : Small a) (hb : Small b) : C a b (prodF a b) := by
  obtain ⟨r, h1, h2⟩ := enter a b (fun r => r = prodF a b) (by
    refine ⟨_, partition_both.spec ha hb, ?_⟩
    unfold prodF
    split
    · rename_i h
      have h' := h
      unfold bothF at h
      split at h
      · rename_i va
        split at h
        · rename_i vb
          split at h
          · rename_i hr
            obtain ⟨v1, v2, v3⟩ := valid_iff.1 va
            refine ⟨_, partition_labels.spec ha va, _, partition_labels.spec hb vb, by omega, ?_⟩
            have := loop (φ := fun r => r = (⟨a.Rows, grpF (zipL (labN a) (labN b))⟩, 0)) v1 v2 labN_len (by rw [labN_len, hr]) rfl a.Rows.toNat 0 (by omega)
            simpa using this
          · omega
        · omega
      · omega
    · rfl)
  rw [← h1]; exact h2
end partition_Product
end Go.Own

namespace Go.Own
section
variable {α β : Type} [DecidableEq α] [DecidableEq β]
structure Alike (l : List α) (m : List β) : Prop where
  len : l.length = m.length
  iff : ∀ i j : Nat, i < l.length → j < l.length → (l[i]? = l[j]? ↔ m[i]? = m[j]?)
theorem cls_alike {l : List α} {m : List β} (h : Alike l m) {k : Nat} {a : α} {b : β} (ha : l[k]? = some a) (hb : m[k]? = some b) : cls l a = cls m b := by
  unfold cls
  rw [h.len]
  congr 1
  refine List.filter_congr fun i hi => ?_
  have hk := (List.getElem?_eq_some_iff.1 ha).1
  have := h.iff i k (by rw [h.len]; simpa using hi) hk
  rw [ha, hb] at this
  rw [decide_eq_decide]
  exact this
theorem mem_take_iff {l : List α} {k : Nat} {a : α} : a ∈ l.take k ↔ ∃ j, j < k ∧ l[j]? = some a := by
  rw [List.mem_iff_getElem?]
  constructor
  · rintro ⟨j, hj⟩
    rw [List.getElem?_take] at hj
    split at hj
    · rename_i h; exact ⟨j, h, hj⟩
    · cases hj
  · rintro ⟨j, h1, h2⟩
    exact ⟨j, by rw [List.getElem?_take_of_lt h1]; exact h2⟩
theorem take_succ_get {l : List α} {k : Nat} {a : α} (h : l[k]? = some a) : l.take (k + 1) = l.take k ++ [a] := by rw [List.take_add_one, h]; rfl
theorem map_alike {l : List α} {m : List β} (h : Alike l m) : ∀ k, k ≤ l.length → (fsts (l.take k)).map (cls l) = (fsts (m.take k)).map (cls m)
  | 0, _ => by simp [fsts]
  | k + 1, hk => by
    have ih := map_alike h k (by omega)
    have hl := List.getElem?_eq_getElem (l := l) (i := k) (by omega)
    have hm := List.getElem?_eq_getElem (l := m) (i := k) (by rw [← h.len]; omega)
    rw [take_succ_get hl, take_succ_get hm, fsts_snoc, fsts_snoc]
    have e : l[k] ∈ fsts (l.take k) ↔ m[k]'(by rw [← h.len]; omega) ∈ fsts (m.take k) := by
      rw [mem_fsts, mem_fsts, mem_take_iff, mem_take_iff]
      constructor
      · rintro ⟨j, h1, h2⟩
        refine ⟨j, h1, ?_⟩
        rw [← hm, ← h.iff j k (by omega) (by omega), h2, hl]
      · rintro ⟨j, h1, h2⟩
        refine ⟨j, h1, ?_⟩
        rw [← hl, h.iff j k (by omega) (by omega), h2, hm]
    by_cases hin : l[k] ∈ fsts (l.take k)
    · rw [if_pos hin, if_pos (e.1 hin)]; exact ih
    · rw [if_neg hin, if_neg (fun hh => hin (e.2 hh)), List.map_append, List.map_append, ih]
      simp only [List.map_cons, List.map_nil, cls_alike h hl hm]
theorem grpF_alike {l : List α} {m : List β} (h : Alike l m) : grpF l = grpF m := by
  have := map_alike h l.length (Nat.le_refl _)
  rw [List.take_length, h.len, List.take_length] at this
  unfold grpF
  rw [this]
theorem cls_sorted {l : List α} {a : α} : (cls l a).Pairwise (· < ·) := by
  unfold cls
  rw [List.pairwise_map]
  refine List.Pairwise.imp ?_ (List.pairwise_lt_range.filter _)
  intro i j h; omega
theorem head_le {c : List Int} (h : c.Pairwise (· < ·)) {i : Int} (hi : i ∈ c) : c.headD 0 ≤ i := by
  match c, h, hi with
  | a :: t, h, hi =>
    simp only [List.headD_cons]
    rcases List.mem_cons.1 hi with rfl | hi
    · omega
    · have := (List.pairwise_cons.1 h).1 i hi; omega
theorem headD_in {c : List Int} (h : c ≠ []) : c.headD 0 ∈ c := by
  match c, h with
  | a :: t, _ => simp
theorem cls_ne {l : List α} {a : α} (h : a ∈ l) : cls l a ≠ [] := by
  obtain ⟨k, hk⟩ := List.mem_iff_getElem?.1 h
  intro hn
  have : ((k : Nat) : Int) ∈ cls l a := mem_cls.2 (by rw [lget_nat]; exact hk)
  rw [hn] at this; cases this
theorem grp_pairs {l : List α} : ∀ k, k ≤ l.length → ((fsts (l.take k)).map (cls l)).Pairwise (fun c d => c.headD 0 < d.headD 0 ∧ ∀ i ∈ c, i ∉ d) ∧ ∀ a ∈ fsts (l.take k), (cls l a).headD 0 < (k : Int)
  | 0, _ => by simp [fsts]
  | k + 1, hk => by
    obtain ⟨i1, i2⟩ := grp_pairs (l := l) k (by omega)
    obtain ⟨x, hl⟩ : ∃ x, l[k]? = some x := ⟨_, List.getElem?_eq_getElem (by omega)⟩
    rw [take_succ_get hl, fsts_snoc]
    split
    · exact ⟨i1, fun a ha => by have := i2 a ha; omega⟩
    · rename_i hin
      have hne := cls_ne (List.mem_of_getElem? hl)
      have hkm : ((k : Nat) : Int) ∈ cls l x := mem_cls.2 (by rw [lget_nat]; exact hl)
      have hhead : (cls l x).headD 0 = (k : Int) := by
        have h1 := head_le cls_sorted hkm
        have h2 := mem_cls.1 (headD_in hne)
        obtain ⟨h3, h4⟩ := lget_some h2
        rcases Int.lt_or_le ((cls l x).headD 0) (k : Int) with h5 | h5
        · exfalso
          apply hin
          rw [mem_fsts, mem_take_iff]
          exact ⟨_, by omega, h4⟩
        · omega
      refine ⟨?_, ?_⟩
      · rw [List.map_append, List.pairwise_append]
        refine ⟨i1, by simp, fun c hc d hd => ?_⟩
        simp only [List.map_cons, List.map_nil, List.mem_singleton] at hd
        subst hd
        obtain ⟨b, hb, rfl⟩ := List.mem_map.1 hc
        refine ⟨by rw [hhead]; exact i2 b hb, fun i hi hi2 => ?_⟩
        have e := (mem_cls.1 hi).symm.trans (mem_cls.1 hi2)
        rw [Option.some.inj e] at hb
        exact hin hb
      · intro a ha
        rcases List.mem_append.1 ha with ha | ha
        · have := i2 a ha; omega
        · simp only [List.mem_singleton] at ha
          subst ha
          rw [hhead]; omega
def part (l : List α) : api_Partition := ⟨l.length, grpF l⟩
theorem mem_grpF {l : List α} {c : List Int} : c ∈ grpF l ↔ ∃ a ∈ l, c = cls l a ∧ 2 ≤ c.length := by
  unfold grpF
  simp only [List.mem_filter, List.mem_map, decide_eq_true_eq]
  constructor
  · rintro ⟨⟨a, h1, rfl⟩, h2⟩; exact ⟨a, mem_fsts.1 h1, rfl, h2⟩
  · rintro ⟨a, h1, rfl, h2⟩; exact ⟨⟨a, mem_fsts.2 h1, rfl⟩, h2⟩
theorem part_CP {l : List α} : CP (l.length : Int) (grpF l) := by
  have hp := (grp_pairs (l := l) l.length (Nat.le_refl _)).1
  rw [List.take_length] at hp
  have hp' : (grpF l).Pairwise (fun c d => c.headD 0 < d.headD 0 ∧ ∀ i ∈ c, i ∉ d) := hp.filter _
  refine ⟨fun c hc => ?_, fun c hc => ?_, fun c hc i hi => ?_, hp'.imp fun h => h.1, hp'.imp fun h => h.2⟩
  · obtain ⟨a, _, _, h⟩ := mem_grpF.1 hc; exact h
  · obtain ⟨a, _, rfl, _⟩ := mem_grpF.1 hc; exact cls_sorted
  · obtain ⟨a, _, rfl, _⟩ := mem_grpF.1 hc
    obtain ⟨h1, h2⟩ := lget_some (mem_cls.1 hi)
    have := (List.getElem?_eq_some_iff.1 h2).1
    omega
theorem part_valid {l : List α} (h : l.length ≤ 1000) : validF (part l) = true := valid_iff.2 ⟨by simp [part], by simp only [part]; omega, part_CP⟩
theorem part_same {l : List α} {i j : Int} (hi : 0 ≤ i ∧ i < l.length) (hj : 0 ≤ j ∧ j < l.length) : Same (part l) i j ↔ lget l i = lget l j := by
  constructor
  · rintro (rfl | ⟨c, hc, h1, h2⟩)
    · rfl
    · obtain ⟨a, _, rfl, _⟩ := mem_grpF.1 hc
      rw [mem_cls.1 h1, mem_cls.1 h2]
  · intro h
    by_cases hij : i = j
    · exact .inl hij
    · obtain ⟨a, ha⟩ := lget_lt (l := l) hi.1 hi.2
      have h1 : i ∈ cls l a := mem_cls.2 ha
      have h2 : j ∈ cls l a := mem_cls.2 (h ▸ ha)
      refine .inr ⟨cls l a, mem_grpF.2 ⟨a, ?_, rfl, ?_⟩, h1, h2⟩
      · exact List.mem_of_getElem? (lget_some ha).2
      · match hc : cls l a, h1, h2 with
        | [x], h1, h2 => simp at h1 h2; exact absurd (h1.trans h2.symm) hij
        | _ :: _ :: _, _, _ => simp
theorem part_small {l : List α} (h : l.length ≤ 1000) : Small (part l) := by
  obtain ⟨h1, h2⟩ := sizes (part_valid h)
  exact ⟨by unfold Big; omega, fun c hc => by have := h2 c hc; unfold Big; omega⟩
theorem prod_part {l : List α} {m : List β} (hl : l.length ≤ 1000) (hm : m.length = l.length) : prodF (part l) (part m) = (part (l.zip m), 0) := by
  have hb : bothF (part l) (part m) = 0 := by
    simp [bothF, part_valid hl, part_valid (l := m) (by omega)]
    simp [part, hm]
  unfold prodF
  rw [if_pos hb]
  have ha : Alike (zipL (labN (part l)) (labN (part m))) (l.zip m) := by
    have n1 : (labN (part l)).length = l.length := by rw [labN_len]; simp [part]
    have n2 : (labN (part m)).length = l.length := by rw [labN_len]; simp [part, hm]
    refine ⟨by simp [zipL, n1, n2, hm], fun i j hi hj => ?_⟩
    have hi : i < l.length := by simp only [zipL, List.length_zip, n1, n2] at hi; omega
    have hj : j < l.length := by simp only [zipL, List.length_zip, n1, n2] at hj; omega
    have key : ∀ {γ δ : Type} {u : List γ} {v : List δ}, u.length = l.length → v.length = l.length → ((u.zip v)[i]? = (u.zip v)[j]? ↔ u[i]? = u[j]? ∧ v[i]? = v[j]?) := by
      intro γ δ u v hu hv
      rw [List.getElem?_eq_getElem (by simp; omega), List.getElem?_eq_getElem (by simp; omega), List.getElem?_eq_getElem (l := u) (by omega), List.getElem?_eq_getElem (l := u) (i := j) (by omega), List.getElem?_eq_getElem (l := v) (by omega), List.getElem?_eq_getElem (l := v) (i := j) (by omega)]
      simp
    unfold zipL
    rw [key n1 n2, key rfl hm]
    have s1 := labN_same (part_valid hl) (i := (i : Int)) (j := (j : Int)) (by simp [part]; omega) (by simp [part]; omega)
    have s2 := labN_same (part_valid (l := m) (by omega)) (i := (i : Int)) (j := (j : Int)) (by simp [part]; omega) (by simp [part]; omega)
    rw [part_same (by omega) (by omega)] at s1
    rw [part_same (by omega) (by omega)] at s2
    simp only [lget_nat] at s1 s2
    rw [s1, s2]
  rw [grpF_alike ha]
  simp [part, hm]
end
end Go.Own

namespace Go.Own
open Go.Proofs D
set_option maxRecDepth 100000
set_option maxHeartbeats 4000000
namespace drosslaw08_awake
noncomputable def B : Code := (Tryd.f11.body).getD .skip
def W : List Nat := [0, 1, 2, 3, 4, 5, 6, 7, 8]
def res (r : Bool) : D × List D := (.lit (.bool r), [])
def C  (r : Bool) : Prop := Ret env 11 [] (res r).1 (res r).2
end drosslaw08_awake
end Go.Own

namespace Go.Own
set_option maxRecDepth 1000000
theorem drosslaw08_awake.run : callN env 400 11 [] = some (.lit (.bool true), []) := by kernel_rfl
theorem drosslaw08_awake.spec : drosslaw08_awake.C true := Ret.of drosslaw08_awake.run
end Go.Own

namespace Go.Own
open Go.Proofs D
set_option maxRecDepth 100000
set_option maxHeartbeats 4000000
namespace drossref02_Ints
noncomputable def B : Code := (Tryd.f38.body).getD .skip
def W : List Nat := [0, 1, 4, 5, 10, 14, 25]
def res (r : Bool) : D × List D := (.lit (.bool r), [])
def C (x0 : List Int) (x1 : List Int) (r : Bool) : Prop := Ret env 38 [.sl (x0.map (eI .i64)), .sl (x1.map (eI .i64))] (res r).1 (res r).2
def L1 (x0 : List Int) (x1 : List Int) (y5_L1 : Int) (φ : Bool → Prop) : Prop := Pt env 38 W B [1, 1, 0, 1, 0] [(0, .sl (x0.map (eI .i64))), (1, .sl (x1.map (eI .i64))), (5, .lit (.int .i64 y5_L1))] (Lv env 38 Tryd.f38 2 res φ)
theorem L1_step (x0 : List Int) (x1 : List Int) (y5_L1 : Int) (φ : Bool → Prop) (h :
    (if y5_L1 < (x0.length : Int) then
      ∃ a1, lget x0 y5_L1 = some a1 ∧
      ∃ a3, lget x1 y5_L1 = some a3 ∧
      (if a1 = a3 then
        drossref02_Ints.L1 x0 x1 ((IntKind.wrap .i64 (y5_L1 + 1))) φ
      else
        φ false)
    else
      φ true)) : L1 x0 x1 y5_L1 φ := by
  unfold L1
  refine Pt.loop (p' := [1, 1, 0, 1, 0, 0, 0, 0]) (by kernel_rfl) (by kernel_rfl) ?_
  refine Pt.reg (by kernel_rfl) ?_
  refine AtO.seg 2 (by kernel_rfl) ?_
  refine AtO.val (by kernel_rfl) (val_len (x := (.tmp 12)) (t := 38) (et := 3) (d := .sl (x0.map (eI .i64))) (e := (eI .i64)) (l := x0) (by kernel_rfl) (by kernel_rfl) elemsOf_sl (by kernel_rfl)) ?_
  refine AtO.bool (b := (decide (y5_L1 < (x0.length : Int)))) (by kernel_rfl) (by kernel_rfl) (fun hc => ?_) (fun hc => ?_)
  · have h := ite_t h (of_decide_eq_true hc)
    refine AtO.done (p' := [1, 1, 0, 1, 0, 0, 0, 1]) (F' := [(0, .sl (x0.map (eI .i64))), (1, .sl (x1.map (eI .i64))), (5, .lit (.int .i64 y5_L1)), (14, .lit (.bool true))]) (by kernel_rfl) (by kernel_rfl) (by kernel_rfl) ?_
    refine Pt.cond_t (p' := [1, 1, 0, 1, 0, 0, 0, 1, 0]) (F' := [(0, .sl (x0.map (eI .i64))), (1, .sl (x1.map (eI .i64))), (5, .lit (.int .i64 y5_L1))]) (y := (.tmp 14)) (by kernel_rfl) (by kernel_rfl) (by kernel_rfl) (by kernel_rfl) ?_
    refine Pt.skip (p' := [1, 1, 0, 1, 0, 0, 1, 0, 0, 0]) (by kernel_rfl) (by kernel_rfl) ?_
    refine Pt.reg (by kernel_rfl) ?_
    obtain ⟨a1, h2, h⟩ := h
    refine AtO.seg 2 (by kernel_rfl) ?_
    refine AtO.val (by kernel_rfl) (val_idx_sl (t := 38) (x := (.tmp 17)) (ix := (.tmp 18)) (et := 3) (k := 1) (e := (eI .i64)) (l := x0) (i := y5_L1) (q := .i64) (a := a1) (by kernel_rfl) (by kernel_rfl) (by kernel_rfl) (by kernel_rfl) (by kernel_rfl) h2 (by kernel_rfl)) ?_
    obtain ⟨a3, h4, h⟩ := h
    refine AtO.seg 3 (by kernel_rfl) ?_
    refine AtO.val (by kernel_rfl) (val_idx_sl (t := 38) (x := (.tmp 21)) (ix := (.tmp 22)) (et := 3) (k := 1) (e := (eI .i64)) (l := x1) (i := y5_L1) (q := .i64) (a := a3) (by kernel_rfl) (by kernel_rfl) (by kernel_rfl) (by kernel_rfl) (by kernel_rfl) h4 (by kernel_rfl)) ?_
    refine AtO.seg 1 (by kernel_rfl) ?_
    refine AtO.bool (b := (a1 != a3)) (by kernel_rfl) (by kernel_rfl) (fun hc => ?_) (fun hc => ?_)
    · have h := ite_f h (bne_t hc)
      refine AtO.done (p' := [1, 1, 0, 1, 0, 0, 1, 0, 0, 1]) (F' := [(0, .sl (x0.map (eI .i64))), (1, .sl (x1.map (eI .i64))), (5, .lit (.int .i64 y5_L1)), (25, .lit (.bool true))]) (by kernel_rfl) (by kernel_rfl) (by kernel_rfl) ?_
      refine Pt.cond_t (p' := [1, 1, 0, 1, 0, 0, 1, 0, 0, 1, 0, 0]) (F' := []) (y := (.tmp 25)) (by kernel_rfl) (by kernel_rfl) (by kernel_rfl) (by kernel_rfl) ?_
      refine Pt.reg (by kernel_rfl) ?_
      refine AtO.seg 1 (by kernel_rfl) ?_
      refine AtO.done (p' := [1, 1, 0, 1, 0, 0, 1, 0, 0, 1, 0, 1]) (F' := [(4, .lit (.bool false))]) (by kernel_rfl) (by kernel_rfl) (by kernel_rfl) ?_
      exact Pt.ret false (by kernel_rfl) (by kernel_rfl) h
    · have h := ite_t h (bne_f hc)
      refine AtO.done (p' := [1, 1, 0, 1, 0, 0, 1, 0, 0, 1]) (F' := [(0, .sl (x0.map (eI .i64))), (1, .sl (x1.map (eI .i64))), (5, .lit (.int .i64 y5_L1)), (25, .lit (.bool false))]) (by kernel_rfl) (by kernel_rfl) (by kernel_rfl) ?_
      refine Pt.cond_f (p' := [1, 1, 0, 1, 0, 0, 1, 0, 0, 1, 1]) (F' := [(0, .sl (x0.map (eI .i64))), (1, .sl (x1.map (eI .i64))), (5, .lit (.int .i64 y5_L1))]) (y := (.tmp 25)) (by kernel_rfl) (by kernel_rfl) (by kernel_rfl) (by kernel_rfl) ?_
      refine Pt.skip (p' := [1, 1, 0, 1, 0, 0, 1, 1]) (by kernel_rfl) (by kernel_rfl) ?_
      refine Pt.reg (by kernel_rfl) ?_
      refine AtO.seg 3 (by kernel_rfl) ?_
      refine AtO.done (p' := [1, 1, 0, 1, 0]) (F' := [(0, .sl (x0.map (eI .i64))), (1, .sl (x1.map (eI .i64))), (5, .lit (.int .i64 ((IntKind.wrap .i64 (y5_L1 + 1)))))]) (by kernel_rfl) (by kernel_rfl) (by kernel_rfl) ?_
      exact h
  · have h := ite_f h (of_decide_eq_false hc)
    refine AtO.done (p' := [1, 1, 0, 1, 0, 0, 0, 1]) (F' := [(0, .sl (x0.map (eI .i64))), (1, .sl (x1.map (eI .i64))), (5, .lit (.int .i64 y5_L1)), (14, .lit (.bool false))]) (by kernel_rfl) (by kernel_rfl) (by kernel_rfl) ?_
    refine Pt.cond_f (p' := [1, 1, 0, 1, 0, 0, 0, 1, 1]) (F' := []) (y := (.tmp 14)) (by kernel_rfl) (by kernel_rfl) (by kernel_rfl) (by kernel_rfl) ?_
    refine Pt.exit (p' := [1, 1, 1, 0]) (F' := []) (by kernel_rfl) (by kernel_rfl) (by kernel_rfl) ?_
    refine Pt.reg (by kernel_rfl) ?_
    refine AtO.seg 1 (by kernel_rfl) ?_
    refine AtO.done (p' := [1, 1, 1, 1]) (F' := [(4, .lit (.bool true))]) (by kernel_rfl) (by kernel_rfl) (by kernel_rfl) ?_
    exact Pt.ret true (by kernel_rfl) (by kernel_rfl) h
theorem enter (x0 : List Int) (x1 : List Int) (φ : Bool → Prop) (h :
    (if (x0.length : Int) = (x1.length : Int) then
      drossref02_Ints.L1 x0 x1 0 φ
    else
      φ false)) : ∃ r, φ r ∧ C x0 x1 r := by
  refine Ret.of_at (E := env) (f := 38) (fd := Tryd.f38) (body := B) (p := [0]) (V := W) (F := [(0, .sl (x0.map (eI .i64))), (1, .sl (x1.map (eI .i64))), (4, .undef), (5, .undef), (10, .undef), (14, .undef), (25, .undef)]) (res := res) (φ := φ) (ds := [.sl (x0.map (eI .i64)), .sl (x1.map (eI .i64))]) (by kernel_rfl) (by kernel_rfl) (by kernel_rfl) ⟨Nat.le_of_ble_eq_true (by kernel_rfl), Nat.le_of_ble_eq_true (by kernel_rfl)⟩ (by kernel_rfl) (by kernel_rfl) (by kernel_rfl) ?_
  refine Pt.reg (by kernel_rfl) ?_
  refine AtO.seg 1 (by kernel_rfl) ?_
  refine AtO.done (p' := [1, 0, 0]) (F' := [(0, .sl (x0.map (eI .i64))), (1, .sl (x1.map (eI .i64)))]) (by kernel_rfl) (by kernel_rfl) (by kernel_rfl) ?_
  refine Pt.reg (by kernel_rfl) ?_
  refine AtO.seg 1 (by kernel_rfl) ?_
  refine AtO.val (by kernel_rfl) (val_len (x := (.tmp 6)) (t := 38) (et := 3) (d := .sl (x0.map (eI .i64))) (e := (eI .i64)) (l := x0) (by kernel_rfl) (by kernel_rfl) elemsOf_sl (by kernel_rfl)) ?_
  refine AtO.seg 1 (by kernel_rfl) ?_
  refine AtO.val (by kernel_rfl) (val_len (x := (.tmp 8)) (t := 38) (et := 3) (d := .sl (x1.map (eI .i64))) (e := (eI .i64)) (l := x1) (by kernel_rfl) (by kernel_rfl) elemsOf_sl (by kernel_rfl)) ?_
  refine AtO.bool (b := ((x0.length : Int) != (x1.length : Int))) (by kernel_rfl) (by kernel_rfl) (fun hc => ?_) (fun hc => ?_)
  · have h := ite_f h (bne_t hc)
    refine AtO.done (p' := [1, 0, 1]) (F' := [(0, .sl (x0.map (eI .i64))), (1, .sl (x1.map (eI .i64))), (10, .lit (.bool true))]) (by kernel_rfl) (by kernel_rfl) (by kernel_rfl) ?_
    refine Pt.cond_t (p' := [1, 0, 1, 0, 0]) (F' := []) (y := (.tmp 10)) (by kernel_rfl) (by kernel_rfl) (by kernel_rfl) (by kernel_rfl) ?_
    refine Pt.reg (by kernel_rfl) ?_
    refine AtO.seg 1 (by kernel_rfl) ?_
    refine AtO.done (p' := [1, 0, 1, 0, 1]) (F' := [(4, .lit (.bool false))]) (by kernel_rfl) (by kernel_rfl) (by kernel_rfl) ?_
    exact Pt.ret false (by kernel_rfl) (by kernel_rfl) h
  · have h := ite_t h (bne_f hc)
    refine AtO.done (p' := [1, 0, 1]) (F' := [(0, .sl (x0.map (eI .i64))), (1, .sl (x1.map (eI .i64))), (10, .lit (.bool false))]) (by kernel_rfl) (by kernel_rfl) (by kernel_rfl) ?_
    refine Pt.cond_f (p' := [1, 0, 1, 1]) (F' := [(0, .sl (x0.map (eI .i64))), (1, .sl (x1.map (eI .i64)))]) (y := (.tmp 10)) (by kernel_rfl) (by kernel_rfl) (by kernel_rfl) (by kernel_rfl) ?_
    refine Pt.skip (p' := [1, 1, 0, 0]) (by kernel_rfl) (by kernel_rfl) ?_
    refine Pt.reg (by kernel_rfl) ?_
    refine AtO.seg 1 (by kernel_rfl) ?_
    refine AtO.done (p' := [1, 1, 0, 1, 0]) (F' := [(0, .sl (x0.map (eI .i64))), (1, .sl (x1.map (eI .i64))), (5, .lit (.int .i64 0))]) (by kernel_rfl) (by kernel_rfl) (by kernel_rfl) ?_
    exact h
end drossref02_Ints
end Go.Own

namespace Go.Own
open Go.Proofs D
set_option maxRecDepth 100000
set_option maxHeartbeats 4000000
namespace drossref08_Same
noncomputable def B : Code := (Tryd.f14.body).getD .skip
def W : List Nat := [0, 1, 2, 3, 4, 5, 19, 24, 38]
def res (r : Bool) : D × List D := (.lit (.bool r), [])
def C (x0 : api_Partition) (x1 : api_Partition) (r : Bool) : Prop := Ret env 14 [.agg [.lit (.int .i64 x0.Rows), .sl (x0.Classes.map (eSl (eI .i64)))], .agg [.lit (.int .i64 x1.Rows), .sl (x1.Classes.map (eSl (eI .i64)))]] (res r).1 (res r).2
def L1 (x0 : api_Partition) (x1 : api_Partition) (y5_L1 : Int) (φ : Bool → Prop) : Prop := Pt env 14 W B [1, 1, 0, 1, 0] [(0, .agg [.lit (.int .i64 x0.Rows), .sl (x0.Classes.map (eSl (eI .i64)))]), (1, .agg [.lit (.int .i64 x1.Rows), .sl (x1.Classes.map (eSl (eI .i64)))]), (2, .box [.lit (.int .i64 x0.Rows), .sl (x0.Classes.map (eSl (eI .i64)))]), (3, .box [.lit (.int .i64 x1.Rows), .sl (x1.Classes.map (eSl (eI .i64)))]), (5, .lit (.int .i64 y5_L1))] (Lv env 14 Tryd.f14 2 res φ)
theorem L1_step (x0 : api_Partition) (x1 : api_Partition) (y5_L1 : Int) (φ : Bool → Prop) (h :
    (if y5_L1 < (x0.Classes.length : Int) then
      ∃ a1, lget x0.Classes y5_L1 = some a1 ∧
      ∃ a3, lget x1.Classes y5_L1 = some a3 ∧
      ∃ r5 : Bool, drossref02_Ints.C a1 a3 r5 ∧
      (if r5 = true then
        drossref08_Same.L1 x0 x1 ((IntKind.wrap .i64 (y5_L1 + 1))) φ
      else
        φ false)
    else
      φ true)) : L1 x0 x1 y5_L1 φ := by
  unfold L1
  refine Pt.loop (p' := [1, 1, 0, 1, 0, 0, 0, 0]) (by kernel_rfl) (by kernel_rfl) ?_
  refine Pt.reg (by kernel_rfl) ?_
  refine AtO.seg 3 (by kernel_rfl) ?_
  refine AtO.val (by kernel_rfl) (val_len (x := (.tmp 22)) (t := 29) (et := 38) (d := .sl (x0.Classes.map (eSl (eI .i64)))) (e := (eSl (eI .i64))) (l := x0.Classes) (by kernel_rfl) (by kernel_rfl) elemsOf_sl (by kernel_rfl)) ?_
  refine AtO.bool (b := (decide (y5_L1 < (x0.Classes.length : Int)))) (by kernel_rfl) (by kernel_rfl) (fun hc => ?_) (fun hc => ?_)
  · have h := ite_t h (of_decide_eq_true hc)
    refine AtO.done (p' := [1, 1, 0, 1, 0, 0, 0, 1]) (F' := [(0, .agg [.lit (.int .i64 x0.Rows), .sl (x0.Classes.map (eSl (eI .i64)))]), (1, .agg [.lit (.int .i64 x1.Rows), .sl (x1.Classes.map (eSl (eI .i64)))]), (2, .box [.lit (.int .i64 x0.Rows), .sl (x0.Classes.map (eSl (eI .i64)))]), (3, .box [.lit (.int .i64 x1.Rows), .sl (x1.Classes.map (eSl (eI .i64)))]), (5, .lit (.int .i64 y5_L1)), (24, .lit (.bool true))]) (by kernel_rfl) (by kernel_rfl) (by kernel_rfl) ?_
    refine Pt.cond_t (p' := [1, 1, 0, 1, 0, 0, 0, 1, 0]) (F' := [(0, .agg [.lit (.int .i64 x0.Rows), .sl (x0.Classes.map (eSl (eI .i64)))]), (1, .agg [.lit (.int .i64 x1.Rows), .sl (x1.Classes.map (eSl (eI .i64)))]), (2, .box [.lit (.int .i64 x0.Rows), .sl (x0.Classes.map (eSl (eI .i64)))]), (3, .box [.lit (.int .i64 x1.Rows), .sl (x1.Classes.map (eSl (eI .i64)))]), (5, .lit (.int .i64 y5_L1))]) (y := (.tmp 24)) (by kernel_rfl) (by kernel_rfl) (by kernel_rfl) (by kernel_rfl) ?_
    refine Pt.skip (p' := [1, 1, 0, 1, 0, 0, 1, 0, 0, 0]) (by kernel_rfl) (by kernel_rfl) ?_
    refine Pt.reg (by kernel_rfl) ?_
    obtain ⟨a1, h2, h⟩ := h
    refine AtO.seg 3 (by kernel_rfl) ?_
    refine AtO.val (by kernel_rfl) (val_idx_sl (t := 29) (x := (.tmp 28)) (ix := (.tmp 29)) (et := 38) (k := 1) (e := (eSl (eI .i64))) (l := x0.Classes) (i := y5_L1) (q := .i64) (a := a1) (by kernel_rfl) (by kernel_rfl) (by kernel_rfl) (by kernel_rfl) (by kernel_rfl) h2 (by kernel_rfl)) ?_
    obtain ⟨a3, h4, h⟩ := h
    refine AtO.seg 4 (by kernel_rfl) ?_
    refine AtO.val (by kernel_rfl) (val_idx_sl (t := 29) (x := (.tmp 33)) (ix := (.tmp 34)) (et := 38) (k := 1) (e := (eSl (eI .i64))) (l := x1.Classes) (i := y5_L1) (q := .i64) (a := a3) (by kernel_rfl) (by kernel_rfl) (by kernel_rfl) (by kernel_rfl) (by kernel_rfl) h4 (by kernel_rfl)) ?_
    obtain ⟨r5, h6, h⟩ := h
    refine AtO.seg 1 (by kernel_rfl) ?_
    refine AtO.call0 (x := (.func 38)) (g := 38) (caps := []) (agl := [.opn (.tmp 31), .opn (.tmp 36)]) (ds := [.sl (a1.map (eI .i64)), .sl (a3.map (eI .i64))]) (r := .lit (.bool r5)) (r' := .lit (.bool r5)) (ms := [none, none]) (by kernel_rfl) (by kernel_rfl) (by kernel_rfl) (by kernel_rfl) (by kernel_rfl) (by kernel_rfl) (pass_snap (a := .opn (.tmp 31)) (d0 := .sl (a1.map (eI .i64))) (d := .sl (a1.map (eI .i64))) (by kernel_rfl) (by kernel_rfl) (by kernel_rfl) (pass_snap (a := .opn (.tmp 36)) (d0 := .sl (a3.map (eI .i64))) (d := .sl (a3.map (eI .i64))) (by kernel_rfl) (by kernel_rfl) (by kernel_rfl) pass_nil)) h6 rfl (by kernel_rfl) ?_
    refine AtO.putb (fun hc => ?_) (fun hc => ?_)
    · have h := ite_t h (id hc)
      refine AtO.seg 1 (by kernel_rfl) ?_
      refine AtO.done (p' := [1, 1, 0, 1, 0, 0, 1, 0, 0, 1]) (F' := [(0, .agg [.lit (.int .i64 x0.Rows), .sl (x0.Classes.map (eSl (eI .i64)))]), (1, .agg [.lit (.int .i64 x1.Rows), .sl (x1.Classes.map (eSl (eI .i64)))]), (2, .box [.lit (.int .i64 x0.Rows), .sl (x0.Classes.map (eSl (eI .i64)))]), (3, .box [.lit (.int .i64 x1.Rows), .sl (x1.Classes.map (eSl (eI .i64)))]), (5, .lit (.int .i64 y5_L1)), (38, .lit (.bool false))]) (by kernel_rfl) (by kernel_rfl) (by kernel_rfl) ?_
      refine Pt.cond_f (p' := [1, 1, 0, 1, 0, 0, 1, 0, 0, 1, 1]) (F' := [(0, .agg [.lit (.int .i64 x0.Rows), .sl (x0.Classes.map (eSl (eI .i64)))]), (1, .agg [.lit (.int .i64 x1.Rows), .sl (x1.Classes.map (eSl (eI .i64)))]), (2, .box [.lit (.int .i64 x0.Rows), .sl (x0.Classes.map (eSl (eI .i64)))]), (3, .box [.lit (.int .i64 x1.Rows), .sl (x1.Classes.map (eSl (eI .i64)))]), (5, .lit (.int .i64 y5_L1))]) (y := (.tmp 38)) (by kernel_rfl) (by kernel_rfl) (by kernel_rfl) (by kernel_rfl) ?_
      refine Pt.skip (p' := [1, 1, 0, 1, 0, 0, 1, 1]) (by kernel_rfl) (by kernel_rfl) ?_
      refine Pt.reg (by kernel_rfl) ?_
      refine AtO.seg 3 (by kernel_rfl) ?_
      refine AtO.done (p' := [1, 1, 0, 1, 0]) (F' := [(0, .agg [.lit (.int .i64 x0.Rows), .sl (x0.Classes.map (eSl (eI .i64)))]), (1, .agg [.lit (.int .i64 x1.Rows), .sl (x1.Classes.map (eSl (eI .i64)))]), (2, .box [.lit (.int .i64 x0.Rows), .sl (x0.Classes.map (eSl (eI .i64)))]), (3, .box [.lit (.int .i64 x1.Rows), .sl (x1.Classes.map (eSl (eI .i64)))]), (5, .lit (.int .i64 ((IntKind.wrap .i64 (y5_L1 + 1)))))]) (by kernel_rfl) (by kernel_rfl) (by kernel_rfl) ?_
      exact h
    · have h := ite_f h (fls hc)
      refine AtO.seg 1 (by kernel_rfl) ?_
      refine AtO.done (p' := [1, 1, 0, 1, 0, 0, 1, 0, 0, 1]) (F' := [(0, .agg [.lit (.int .i64 x0.Rows), .sl (x0.Classes.map (eSl (eI .i64)))]), (1, .agg [.lit (.int .i64 x1.Rows), .sl (x1.Classes.map (eSl (eI .i64)))]), (2, .box [.lit (.int .i64 x0.Rows), .sl (x0.Classes.map (eSl (eI .i64)))]), (3, .box [.lit (.int .i64 x1.Rows), .sl (x1.Classes.map (eSl (eI .i64)))]), (5, .lit (.int .i64 y5_L1)), (38, .lit (.bool true))]) (by kernel_rfl) (by kernel_rfl) (by kernel_rfl) ?_
      refine Pt.cond_t (p' := [1, 1, 0, 1, 0, 0, 1, 0, 0, 1, 0, 0]) (F' := []) (y := (.tmp 38)) (by kernel_rfl) (by kernel_rfl) (by kernel_rfl) (by kernel_rfl) ?_
      refine Pt.reg (by kernel_rfl) ?_
      refine AtO.seg 1 (by kernel_rfl) ?_
      refine AtO.done (p' := [1, 1, 0, 1, 0, 0, 1, 0, 0, 1, 0, 1]) (F' := [(4, .lit (.bool false))]) (by kernel_rfl) (by kernel_rfl) (by kernel_rfl) ?_
      exact Pt.ret false (by kernel_rfl) (by kernel_rfl) h
  · have h := ite_f h (of_decide_eq_false hc)
    refine AtO.done (p' := [1, 1, 0, 1, 0, 0, 0, 1]) (F' := [(0, .agg [.lit (.int .i64 x0.Rows), .sl (x0.Classes.map (eSl (eI .i64)))]), (1, .agg [.lit (.int .i64 x1.Rows), .sl (x1.Classes.map (eSl (eI .i64)))]), (2, .box [.lit (.int .i64 x0.Rows), .sl (x0.Classes.map (eSl (eI .i64)))]), (3, .box [.lit (.int .i64 x1.Rows), .sl (x1.Classes.map (eSl (eI .i64)))]), (5, .lit (.int .i64 y5_L1)), (24, .lit (.bool false))]) (by kernel_rfl) (by kernel_rfl) (by kernel_rfl) ?_
    refine Pt.cond_f (p' := [1, 1, 0, 1, 0, 0, 0, 1, 1]) (F' := []) (y := (.tmp 24)) (by kernel_rfl) (by kernel_rfl) (by kernel_rfl) (by kernel_rfl) ?_
    refine Pt.exit (p' := [1, 1, 1, 0]) (F' := []) (by kernel_rfl) (by kernel_rfl) (by kernel_rfl) ?_
    refine Pt.reg (by kernel_rfl) ?_
    refine AtO.seg 1 (by kernel_rfl) ?_
    refine AtO.done (p' := [1, 1, 1, 1]) (F' := [(4, .lit (.bool true))]) (by kernel_rfl) (by kernel_rfl) (by kernel_rfl) ?_
    exact Pt.ret true (by kernel_rfl) (by kernel_rfl) h
theorem enter (x0 : api_Partition) (x1 : api_Partition) (φ : Bool → Prop) (h :
    (if x0.Rows = x1.Rows then
      (if (x0.Classes.length : Int) = (x1.Classes.length : Int) then
        drossref08_Same.L1 x0 x1 0 φ
      else
        φ false)
    else
      φ false)) : ∃ r, φ r ∧ C x0 x1 r := by
  refine Ret.of_at (E := env) (f := 14) (fd := Tryd.f14) (body := B) (p := [0]) (V := W) (F := [(0, .agg [.lit (.int .i64 x0.Rows), .sl (x0.Classes.map (eSl (eI .i64)))]), (1, .agg [.lit (.int .i64 x1.Rows), .sl (x1.Classes.map (eSl (eI .i64)))]), (2, .undef), (3, .undef), (4, .undef), (5, .undef), (19, .undef), (24, .undef), (38, .undef)]) (res := res) (φ := φ) (ds := [.agg [.lit (.int .i64 x0.Rows), .sl (x0.Classes.map (eSl (eI .i64)))], .agg [.lit (.int .i64 x1.Rows), .sl (x1.Classes.map (eSl (eI .i64)))]]) (by kernel_rfl) (by kernel_rfl) (by kernel_rfl) ⟨Nat.le_of_ble_eq_true (by kernel_rfl), Nat.le_of_ble_eq_true (by kernel_rfl)⟩ (by kernel_rfl) (by kernel_rfl) (by kernel_rfl) ?_
  refine Pt.reg (by kernel_rfl) ?_
  refine AtO.seg 3 (by kernel_rfl) ?_
  refine AtO.done (p' := [1, 0, 0]) (F' := [(0, .agg [.lit (.int .i64 x0.Rows), .sl (x0.Classes.map (eSl (eI .i64)))]), (1, .agg [.lit (.int .i64 x1.Rows), .sl (x1.Classes.map (eSl (eI .i64)))]), (2, .box [.lit (.int .i64 x0.Rows), .sl (x0.Classes.map (eSl (eI .i64)))]), (3, .box [.lit (.int .i64 x1.Rows), .sl (x1.Classes.map (eSl (eI .i64)))])]) (by kernel_rfl) (by kernel_rfl) (by kernel_rfl) ?_
  refine Pt.reg (by kernel_rfl) ?_
  refine AtO.seg 4 (by kernel_rfl) ?_
  refine AtO.bool (b := (x0.Rows != x1.Rows)) (by kernel_rfl) (by kernel_rfl) (fun hc => ?_) (fun hc => ?_)
  · have h := ite_f h (bne_t hc)
    refine AtO.seg 9 (by kernel_rfl) ?_
    refine AtO.done (p' := [1, 0, 1]) (F' := [(0, .agg [.lit (.int .i64 x0.Rows), .sl (x0.Classes.map (eSl (eI .i64)))]), (1, .agg [.lit (.int .i64 x1.Rows), .sl (x1.Classes.map (eSl (eI .i64)))]), (2, .box [.lit (.int .i64 x0.Rows), .sl (x0.Classes.map (eSl (eI .i64)))]), (3, .box [.lit (.int .i64 x1.Rows), .sl (x1.Classes.map (eSl (eI .i64)))]), (19, .lit (.bool true))]) (by kernel_rfl) (by kernel_rfl) (by kernel_rfl) ?_
    refine Pt.cond_t (p' := [1, 0, 1, 0, 0]) (F' := []) (y := (.tmp 19)) (by kernel_rfl) (by kernel_rfl) (by kernel_rfl) (by kernel_rfl) ?_
    refine Pt.reg (by kernel_rfl) ?_
    refine AtO.seg 1 (by kernel_rfl) ?_
    refine AtO.done (p' := [1, 0, 1, 0, 1]) (F' := [(4, .lit (.bool false))]) (by kernel_rfl) (by kernel_rfl) (by kernel_rfl) ?_
    exact Pt.ret false (by kernel_rfl) (by kernel_rfl) h
  · have h := ite_t h (bne_f hc)
    refine AtO.seg 3 (by kernel_rfl) ?_
    refine AtO.val (by kernel_rfl) (val_len (x := (.tmp 13)) (t := 29) (et := 38) (d := .sl (x0.Classes.map (eSl (eI .i64)))) (e := (eSl (eI .i64))) (l := x0.Classes) (by kernel_rfl) (by kernel_rfl) elemsOf_sl (by kernel_rfl)) ?_
    refine AtO.seg 2 (by kernel_rfl) ?_
    refine AtO.val (by kernel_rfl) (val_len (x := (.tmp 16)) (t := 29) (et := 38) (d := .sl (x1.Classes.map (eSl (eI .i64)))) (e := (eSl (eI .i64))) (l := x1.Classes) (by kernel_rfl) (by kernel_rfl) elemsOf_sl (by kernel_rfl)) ?_
    refine AtO.bool (b := ((x0.Classes.length : Int) != (x1.Classes.length : Int))) (by kernel_rfl) (by kernel_rfl) (fun hc => ?_) (fun hc => ?_)
    · have h := ite_f h (bne_t hc)
      refine AtO.seg 1 (by kernel_rfl) ?_
      refine AtO.done (p' := [1, 0, 1]) (F' := [(0, .agg [.lit (.int .i64 x0.Rows), .sl (x0.Classes.map (eSl (eI .i64)))]), (1, .agg [.lit (.int .i64 x1.Rows), .sl (x1.Classes.map (eSl (eI .i64)))]), (2, .box [.lit (.int .i64 x0.Rows), .sl (x0.Classes.map (eSl (eI .i64)))]), (3, .box [.lit (.int .i64 x1.Rows), .sl (x1.Classes.map (eSl (eI .i64)))]), (19, .lit (.bool true))]) (by kernel_rfl) (by kernel_rfl) (by kernel_rfl) ?_
      refine Pt.cond_t (p' := [1, 0, 1, 0, 0]) (F' := []) (y := (.tmp 19)) (by kernel_rfl) (by kernel_rfl) (by kernel_rfl) (by kernel_rfl) ?_
      refine Pt.reg (by kernel_rfl) ?_
      refine AtO.seg 1 (by kernel_rfl) ?_
      refine AtO.done (p' := [1, 0, 1, 0, 1]) (F' := [(4, .lit (.bool false))]) (by kernel_rfl) (by kernel_rfl) (by kernel_rfl) ?_
      exact Pt.ret false (by kernel_rfl) (by kernel_rfl) h
    · have h := ite_t h (bne_f hc)
      refine AtO.seg 1 (by kernel_rfl) ?_
      refine AtO.done (p' := [1, 0, 1]) (F' := [(0, .agg [.lit (.int .i64 x0.Rows), .sl (x0.Classes.map (eSl (eI .i64)))]), (1, .agg [.lit (.int .i64 x1.Rows), .sl (x1.Classes.map (eSl (eI .i64)))]), (2, .box [.lit (.int .i64 x0.Rows), .sl (x0.Classes.map (eSl (eI .i64)))]), (3, .box [.lit (.int .i64 x1.Rows), .sl (x1.Classes.map (eSl (eI .i64)))]), (19, .lit (.bool false))]) (by kernel_rfl) (by kernel_rfl) (by kernel_rfl) ?_
      refine Pt.cond_f (p' := [1, 0, 1, 1]) (F' := [(0, .agg [.lit (.int .i64 x0.Rows), .sl (x0.Classes.map (eSl (eI .i64)))]), (1, .agg [.lit (.int .i64 x1.Rows), .sl (x1.Classes.map (eSl (eI .i64)))]), (2, .box [.lit (.int .i64 x0.Rows), .sl (x0.Classes.map (eSl (eI .i64)))]), (3, .box [.lit (.int .i64 x1.Rows), .sl (x1.Classes.map (eSl (eI .i64)))])]) (y := (.tmp 19)) (by kernel_rfl) (by kernel_rfl) (by kernel_rfl) (by kernel_rfl) ?_
      refine Pt.skip (p' := [1, 1, 0, 0]) (by kernel_rfl) (by kernel_rfl) ?_
      refine Pt.reg (by kernel_rfl) ?_
      refine AtO.seg 1 (by kernel_rfl) ?_
      refine AtO.done (p' := [1, 1, 0, 1, 0]) (F' := [(0, .agg [.lit (.int .i64 x0.Rows), .sl (x0.Classes.map (eSl (eI .i64)))]), (1, .agg [.lit (.int .i64 x1.Rows), .sl (x1.Classes.map (eSl (eI .i64)))]), (2, .box [.lit (.int .i64 x0.Rows), .sl (x0.Classes.map (eSl (eI .i64)))]), (3, .box [.lit (.int .i64 x1.Rows), .sl (x1.Classes.map (eSl (eI .i64)))]), (5, .lit (.int .i64 0))]) (by kernel_rfl) (by kernel_rfl) (by kernel_rfl) ?_
      exact h
end drossref08_Same
end Go.Own

namespace Go.Own
open Go.Proofs D
set_option maxRecDepth 100000
set_option maxHeartbeats 4000000
namespace drosslaw08_PartitionLaws
noncomputable def B : Code := (Tryd.f5.body).getD .skip
def W : List Nat := [0, 1, 2, 3, 4, 5, 6, 7, 8, 9, 10, 11, 12, 13, 14, 15, 16, 17, 18, 41, 109]
def res (r : Bool) : D × List D := (.lit (.bool r), [])
def C (x0 : (List Int × List Int × List Int)) (r : Bool) : Prop := Ret env 5 [.agg [.sl (x0.1.map (eI .u8)), .sl (x0.2.1.map (eI .u8)), .sl (x0.2.2.map (eI .u8))]] (res r).1 (res r).2
def L1  (φ : Bool → Prop) : Prop := Pt env 5 W B [1, 1, 0, 1, 0, 0] [] (Lv env 5 Tryd.f5 1 res φ)
theorem L1_step  (φ : Bool → Prop) (h :
    ∃ r27 : Bool, drosslaw08_awake.C  r27 ∧
    φ r27) : L1  φ := by
  unfold L1
  refine Pt.reg (by kernel_rfl) ?_
  obtain ⟨r27, h28, h⟩ := h
  refine AtO.call0 (x := (.func 11)) (g := 11) (caps := []) (agl := []) (ds := []) (r := .lit (.bool r27)) (r' := .lit (.bool r27)) (ms := []) (by kernel_rfl) (by kernel_rfl) (by kernel_rfl) (by kernel_rfl) (by kernel_rfl) (by kernel_rfl) pass_nil h28 rfl (by kernel_rfl) ?_
  refine AtO.seg 1 (by kernel_rfl) ?_
  refine AtO.done (p' := [1, 1, 0, 1, 0, 1]) (F' := [(2, .lit (.bool r27))]) (by kernel_rfl) (by kernel_rfl) (by kernel_rfl) ?_
  exact Pt.ret r27 (by kernel_rfl) (by kernel_rfl) h
theorem enter (x0 : (List Int × List Int × List Int)) (φ : Bool → Prop) (h :
    ∃ r1 : Bool, drosslaw08_awake.C  r1 ∧
    (if r1 = true then
      (if 20 < (x0.1.length : Int) then
        drosslaw08_PartitionLaws.L1  φ
      else
        (if (x0.2.1.length : Int) = (x0.1.length : Int) then
          (if (x0.2.2.length : Int) = (x0.1.length : Int) then
            ∃ r3 : api_Partition, drossref08_From.C x0.1 r3 ∧
            ∃ r5 : api_Partition, drossref08_From.C x0.2.1 r5 ∧
            ∃ r7 : api_Partition, drossref08_From.C x0.2.2 r7 ∧
            ∃ r9 : api_Partition × Int, partition_Product.C r3 r5 r9 ∧
            ∃ r11 : api_Partition × Int, partition_Product.C r5 r3 r11 ∧
            ∃ r13 : api_Partition × Int, partition_Product.C r5 r7 r13 ∧
            ∃ r15 : api_Partition × Int, partition_Product.C r9.1 r7 r15 ∧
            ∃ r17 : api_Partition × Int, partition_Product.C r3 r13.1 r17 ∧
            ∃ r19 : api_Partition × Int, partition_Product.C r3 r3 r19 ∧
            (if r9.2 = 0 then
              (if r11.2 = 0 then
                (if r13.2 = 0 then
                  (if r15.2 = 0 then
                    (if r17.2 = 0 then
                      (if r19.2 = 0 then
                        ∃ r21 : Bool, drossref08_Same.C r9.1 r11.1 r21 ∧
                        (if r21 = true then
                          ∃ r23 : Bool, drossref08_Same.C r15.1 r17.1 r23 ∧
                          (if r23 = true then
                            ∃ r25 : Bool, drossref08_Same.C r19.1 r3 r25 ∧
                            φ r25
                          else
                            φ false)
                        else
                          φ false)
                      else
                        φ false)
                    else
                      φ false)
                  else
                    φ false)
                else
                  φ false)
              else
                φ false)
            else
              φ false)
          else
            drosslaw08_PartitionLaws.L1  φ)
        else
          drosslaw08_PartitionLaws.L1  φ))
    else
      drosslaw08_PartitionLaws.L1  φ)) : ∃ r, φ r ∧ C x0 r := by
  refine Ret.of_at (E := env) (f := 5) (fd := Tryd.f5) (body := B) (p := [0]) (V := W) (F := [(0, .agg [.sl (x0.1.map (eI .u8)), .sl (x0.2.1.map (eI .u8)), .sl (x0.2.2.map (eI .u8))]), (1, .undef), (2, .undef), (3, .undef), (4, .undef), (5, .undef), (6, .undef), (7, .undef), (8, .undef), (9, .undef), (10, .undef), (11, .undef), (12, .undef), (13, .undef), (14, .undef), (15, .undef), (16, .undef), (17, .undef), (18, .undef), (41, .undef), (109, .undef)]) (res := res) (φ := φ) (ds := [.agg [.sl (x0.1.map (eI .u8)), .sl (x0.2.1.map (eI .u8)), .sl (x0.2.2.map (eI .u8))]]) (by kernel_rfl) (by kernel_rfl) (by kernel_rfl) ⟨Nat.le_of_ble_eq_true (by kernel_rfl), Nat.le_of_ble_eq_true (by kernel_rfl)⟩ (by kernel_rfl) (by kernel_rfl) (by kernel_rfl) ?_
  refine Pt.reg (by kernel_rfl) ?_
  refine AtO.seg 2 (by kernel_rfl) ?_
  refine AtO.done (p' := [1, 0]) (F' := [(0, .agg [.sl (x0.1.map (eI .u8)), .sl (x0.2.1.map (eI .u8)), .sl (x0.2.2.map (eI .u8))]), (1, .box [.sl (x0.1.map (eI .u8)), .sl (x0.2.1.map (eI .u8)), .sl (x0.2.2.map (eI .u8))])]) (by kernel_rfl) (by kernel_rfl) (by kernel_rfl) ?_
  refine Pt.reg (by kernel_rfl) ?_
  refine AtO.seg 2 (by kernel_rfl) ?_
  refine AtO.val (by kernel_rfl) (val_len (x := (.tmp 20)) (t := 40) (et := 5) (d := .sl (x0.1.map (eI .u8))) (e := (eI .u8)) (l := x0.1) (by kernel_rfl) (by kernel_rfl) elemsOf_sl (by kernel_rfl)) ?_
  refine AtO.seg 1 (by kernel_rfl) ?_
  refine AtO.done (p' := [1, 1, 0, 0]) (F' := [(0, .agg [.sl (x0.1.map (eI .u8)), .sl (x0.2.1.map (eI .u8)), .sl (x0.2.2.map (eI .u8))]), (1, .box [.sl (x0.1.map (eI .u8)), .sl (x0.2.1.map (eI .u8)), .sl (x0.2.2.map (eI .u8))]), (3, .lit (.int .i64 ((x0.1.length : Int))))]) (by kernel_rfl) (by kernel_rfl) (by kernel_rfl) ?_
  refine Pt.reg (by kernel_rfl) ?_
  obtain ⟨r1, h2, h⟩ := h
  refine AtO.call0 (x := (.func 11)) (g := 11) (caps := []) (agl := []) (ds := []) (r := .lit (.bool r1)) (r' := .lit (.bool r1)) (ms := []) (by kernel_rfl) (by kernel_rfl) (by kernel_rfl) (by kernel_rfl) (by kernel_rfl) (by kernel_rfl) pass_nil h2 rfl (by kernel_rfl) ?_
  refine AtO.putb (fun hc => ?_) (fun hc => ?_)
  · have h := ite_t h (id hc)
    refine AtO.seg 3 (by kernel_rfl) ?_
    refine AtO.bool (b := (decide (20 < (x0.1.length : Int)))) (by kernel_rfl) (by kernel_rfl) (fun hc => ?_) (fun hc => ?_)
    · have h := ite_t h (of_decide_eq_true hc)
      refine AtO.seg 15 (by kernel_rfl) ?_
      refine AtO.done (p' := [1, 1, 0, 1]) (F' := [(0, .agg [.sl (x0.1.map (eI .u8)), .sl (x0.2.1.map (eI .u8)), .sl (x0.2.2.map (eI .u8))]), (1, .box [.sl (x0.1.map (eI .u8)), .sl (x0.2.1.map (eI .u8)), .sl (x0.2.2.map (eI .u8))]), (41, .lit (.bool true))]) (by kernel_rfl) (by kernel_rfl) (by kernel_rfl) ?_
      refine Pt.cond_t (p' := [1, 1, 0, 1, 0, 0]) (F' := []) (y := (.tmp 41)) (by kernel_rfl) (by kernel_rfl) (by kernel_rfl) (by kernel_rfl) ?_
      exact h
    · have h := ite_f h (of_decide_eq_false hc)
      refine AtO.seg 4 (by kernel_rfl) ?_
      refine AtO.val (by kernel_rfl) (val_len (x := (.tmp 30)) (t := 40) (et := 5) (d := .sl (x0.2.1.map (eI .u8))) (e := (eI .u8)) (l := x0.2.1) (by kernel_rfl) (by kernel_rfl) elemsOf_sl (by kernel_rfl)) ?_
      refine AtO.seg 1 (by kernel_rfl) ?_
      refine AtO.bool (b := ((x0.2.1.length : Int) != (x0.1.length : Int))) (by kernel_rfl) (by kernel_rfl) (fun hc => ?_) (fun hc => ?_)
      · have h := ite_f h (bne_t hc)
        refine AtO.seg 8 (by kernel_rfl) ?_
        refine AtO.done (p' := [1, 1, 0, 1]) (F' := [(0, .agg [.sl (x0.1.map (eI .u8)), .sl (x0.2.1.map (eI .u8)), .sl (x0.2.2.map (eI .u8))]), (1, .box [.sl (x0.1.map (eI .u8)), .sl (x0.2.1.map (eI .u8)), .sl (x0.2.2.map (eI .u8))]), (41, .lit (.bool true))]) (by kernel_rfl) (by kernel_rfl) (by kernel_rfl) ?_
        refine Pt.cond_t (p' := [1, 1, 0, 1, 0, 0]) (F' := []) (y := (.tmp 41)) (by kernel_rfl) (by kernel_rfl) (by kernel_rfl) (by kernel_rfl) ?_
        exact h
      · have h := ite_t h (bne_f hc)
        refine AtO.seg 4 (by kernel_rfl) ?_
        refine AtO.val (by kernel_rfl) (val_len (x := (.tmp 37)) (t := 40) (et := 5) (d := .sl (x0.2.2.map (eI .u8))) (e := (eI .u8)) (l := x0.2.2) (by kernel_rfl) (by kernel_rfl) elemsOf_sl (by kernel_rfl)) ?_
        refine AtO.seg 1 (by kernel_rfl) ?_
        refine AtO.bool (b := ((x0.2.2.length : Int) != (x0.1.length : Int))) (by kernel_rfl) (by kernel_rfl) (fun hc => ?_) (fun hc => ?_)
        · have h := ite_f h (bne_t hc)
          refine AtO.seg 1 (by kernel_rfl) ?_
          refine AtO.done (p' := [1, 1, 0, 1]) (F' := [(0, .agg [.sl (x0.1.map (eI .u8)), .sl (x0.2.1.map (eI .u8)), .sl (x0.2.2.map (eI .u8))]), (1, .box [.sl (x0.1.map (eI .u8)), .sl (x0.2.1.map (eI .u8)), .sl (x0.2.2.map (eI .u8))]), (41, .lit (.bool true))]) (by kernel_rfl) (by kernel_rfl) (by kernel_rfl) ?_
          refine Pt.cond_t (p' := [1, 1, 0, 1, 0, 0]) (F' := []) (y := (.tmp 41)) (by kernel_rfl) (by kernel_rfl) (by kernel_rfl) (by kernel_rfl) ?_
          exact h
        · have h := ite_t h (bne_f hc)
          refine AtO.seg 1 (by kernel_rfl) ?_
          refine AtO.done (p' := [1, 1, 0, 1]) (F' := [(0, .agg [.sl (x0.1.map (eI .u8)), .sl (x0.2.1.map (eI .u8)), .sl (x0.2.2.map (eI .u8))]), (1, .box [.sl (x0.1.map (eI .u8)), .sl (x0.2.1.map (eI .u8)), .sl (x0.2.2.map (eI .u8))]), (41, .lit (.bool false))]) (by kernel_rfl) (by kernel_rfl) (by kernel_rfl) ?_
          refine Pt.cond_f (p' := [1, 1, 0, 1, 1]) (F' := [(0, .agg [.sl (x0.1.map (eI .u8)), .sl (x0.2.1.map (eI .u8)), .sl (x0.2.2.map (eI .u8))]), (1, .box [.sl (x0.1.map (eI .u8)), .sl (x0.2.1.map (eI .u8)), .sl (x0.2.2.map (eI .u8))])]) (y := (.tmp 41)) (by kernel_rfl) (by kernel_rfl) (by kernel_rfl) (by kernel_rfl) ?_
          refine Pt.skip (p' := [1, 1, 1, 0]) (by kernel_rfl) (by kernel_rfl) ?_
          refine Pt.reg (by kernel_rfl) ?_
          obtain ⟨r3, h4, h⟩ := h
          refine AtO.seg 2 (by kernel_rfl) ?_
          refine AtO.callD (x := (.func 19)) (g := 19) (caps := []) (agl := [.opn (.tmp 44)]) (ds := [.sl (x0.1.map (eI .u8))]) (r := .agg [.lit (.int .i64 r3.Rows), .own (r3.Classes.map (eOw (eI .i64)))]) (r' := .agg [.lit (.int .i64 r3.Rows), .sl (r3.Classes.map (eSl (eI .i64)))]) (by kernel_rfl) (by kernel_rfl) (by kernel_rfl) (by kernel_rfl) (by kernel_rfl) (pass_snap (a := .opn (.tmp 44)) (d0 := .sl (x0.1.map (eI .u8))) (d := .sl (x0.1.map (eI .u8))) (by kernel_rfl) (by kernel_rfl) (by kernel_rfl) pass_nil) h4 (by rw [(flat_agg (flts_cons rfl (flts_cons (flat_ow (e := (eOw (eI .i64))) (Flt.ow (fun _ => rfl))) flts_nil)))]; rfl) (cold_agg (by kernel_rfl) (fcs_cons rfl (fcs_cons (freeze_ow (e := (eOw (eI .i64))) (e' := (eSl (eI .i64))) (Fzn.ow (fun _ => rfl)) r3.Classes) fcs_nil))) ?_
          obtain ⟨r5, h6, h⟩ := h
          refine AtO.seg 2 (by kernel_rfl) ?_
          refine AtO.callD (x := (.func 19)) (g := 19) (caps := []) (agl := [.opn (.tmp 47)]) (ds := [.sl (x0.2.1.map (eI .u8))]) (r := .agg [.lit (.int .i64 r5.Rows), .own (r5.Classes.map (eOw (eI .i64)))]) (r' := .agg [.lit (.int .i64 r5.Rows), .sl (r5.Classes.map (eSl (eI .i64)))]) (by kernel_rfl) (by kernel_rfl) (by kernel_rfl) (by kernel_rfl) (by kernel_rfl) (pass_snap (a := .opn (.tmp 47)) (d0 := .sl (x0.2.1.map (eI .u8))) (d := .sl (x0.2.1.map (eI .u8))) (by kernel_rfl) (by kernel_rfl) (by kernel_rfl) pass_nil) h6 (by rw [(flat_agg (flts_cons rfl (flts_cons (flat_ow (e := (eOw (eI .i64))) (Flt.ow (fun _ => rfl))) flts_nil)))]; rfl) (cold_agg (by kernel_rfl) (fcs_cons rfl (fcs_cons (freeze_ow (e := (eOw (eI .i64))) (e' := (eSl (eI .i64))) (Fzn.ow (fun _ => rfl)) r5.Classes) fcs_nil))) ?_
          obtain ⟨r7, h8, h⟩ := h
          refine AtO.seg 2 (by kernel_rfl) ?_
          refine AtO.callD (x := (.func 19)) (g := 19) (caps := []) (agl := [.opn (.tmp 50)]) (ds := [.sl (x0.2.2.map (eI .u8))]) (r := .agg [.lit (.int .i64 r7.Rows), .own (r7.Classes.map (eOw (eI .i64)))]) (r' := .agg [.lit (.int .i64 r7.Rows), .sl (r7.Classes.map (eSl (eI .i64)))]) (by kernel_rfl) (by kernel_rfl) (by kernel_rfl) (by kernel_rfl) (by kernel_rfl) (pass_snap (a := .opn (.tmp 50)) (d0 := .sl (x0.2.2.map (eI .u8))) (d := .sl (x0.2.2.map (eI .u8))) (by kernel_rfl) (by kernel_rfl) (by kernel_rfl) pass_nil) h8 (by rw [(flat_agg (flts_cons rfl (flts_cons (flat_ow (e := (eOw (eI .i64))) (Flt.ow (fun _ => rfl))) flts_nil)))]; rfl) (cold_agg (by kernel_rfl) (fcs_cons rfl (fcs_cons (freeze_ow (e := (eOw (eI .i64))) (e' := (eSl (eI .i64))) (Fzn.ow (fun _ => rfl)) r7.Classes) fcs_nil))) ?_
          refine AtO.seg 6 (by kernel_rfl) ?_
          refine AtO.done (p' := [1, 1, 1, 1, 0]) (F' := [(4, .box [.lit (.int .i64 r3.Rows), .sl (r3.Classes.map (eSl (eI .i64)))]), (5, .box [.lit (.int .i64 r5.Rows), .sl (r5.Classes.map (eSl (eI .i64)))]), (6, .box [.lit (.int .i64 r7.Rows), .sl (r7.Classes.map (eSl (eI .i64)))])]) (by kernel_rfl) (by kernel_rfl) (by kernel_rfl) ?_
          refine Pt.reg (by kernel_rfl) ?_
          obtain ⟨r9, h10, h⟩ := h
          refine AtO.seg 2 (by kernel_rfl) ?_
          refine AtO.callZ (x := (.func 20)) (g := 20) (caps := []) (agl := [.opn (.tmp 53), .opn (.tmp 54)]) (ds := [.agg [.lit (.int .i64 r3.Rows), .sl (r3.Classes.map (eSl (eI .i64)))], .agg [.lit (.int .i64 r5.Rows), .sl (r5.Classes.map (eSl (eI .i64)))]]) (r := .tup [.agg [.lit (.int .i64 r9.1.Rows), .sl (r9.1.Classes.map (eSl (eI .i64)))], .lit (.int .i64 r9.2)]) (r' := .tup [.agg [.lit (.int .i64 r9.1.Rows), .sl (r9.1.Classes.map (eSl (eI .i64)))], .lit (.int .i64 r9.2)]) (ms := [none, none]) (by kernel_rfl) (by kernel_rfl) (by kernel_rfl) (by kernel_rfl) (by kernel_rfl) (by kernel_rfl) (pass_snap (a := .opn (.tmp 53)) (d0 := .agg [.lit (.int .i64 r3.Rows), .sl (r3.Classes.map (eSl (eI .i64)))]) (d := .agg [.lit (.int .i64 r3.Rows), .sl (r3.Classes.map (eSl (eI .i64)))]) (by kernel_rfl) (by kernel_rfl) (by kernel_rfl) (pass_snap (a := .opn (.tmp 54)) (d0 := .agg [.lit (.int .i64 r5.Rows), .sl (r5.Classes.map (eSl (eI .i64)))]) (d := .agg [.lit (.int .i64 r5.Rows), .sl (r5.Classes.map (eSl (eI .i64)))]) (by kernel_rfl) (by kernel_rfl) (by kernel_rfl) pass_nil)) h10 (by kernel_rfl) (by kernel_rfl) ?_
          refine AtO.seg 6 (by kernel_rfl) ?_
          refine AtO.done (p' := [1, 1, 1, 1, 1, 0]) (F' := [(4, .box [.lit (.int .i64 r3.Rows), .sl (r3.Classes.map (eSl (eI .i64)))]), (5, .box [.lit (.int .i64 r5.Rows), .sl (r5.Classes.map (eSl (eI .i64)))]), (6, .box [.lit (.int .i64 r7.Rows), .sl (r7.Classes.map (eSl (eI .i64)))]), (7, .box [.lit (.int .i64 r9.1.Rows), .sl (r9.1.Classes.map (eSl (eI .i64)))]), (8, .lit (.int .i64 r9.2))]) (by kernel_rfl) (by kernel_rfl) (by kernel_rfl) ?_
          refine Pt.reg (by kernel_rfl) ?_
          obtain ⟨r11, h12, h⟩ := h
          refine AtO.seg 2 (by kernel_rfl) ?_
          refine AtO.callZ (x := (.func 20)) (g := 20) (caps := []) (agl := [.opn (.tmp 59), .opn (.tmp 60)]) (ds := [.agg [.lit (.int .i64 r5.Rows), .sl (r5.Classes.map (eSl (eI .i64)))], .agg [.lit (.int .i64 r3.Rows), .sl (r3.Classes.map (eSl (eI .i64)))]]) (r := .tup [.agg [.lit (.int .i64 r11.1.Rows), .sl (r11.1.Classes.map (eSl (eI .i64)))], .lit (.int .i64 r11.2)]) (r' := .tup [.agg [.lit (.int .i64 r11.1.Rows), .sl (r11.1.Classes.map (eSl (eI .i64)))], .lit (.int .i64 r11.2)]) (ms := [none, none]) (by kernel_rfl) (by kernel_rfl) (by kernel_rfl) (by kernel_rfl) (by kernel_rfl) (by kernel_rfl) (pass_snap (a := .opn (.tmp 59)) (d0 := .agg [.lit (.int .i64 r5.Rows), .sl (r5.Classes.map (eSl (eI .i64)))]) (d := .agg [.lit (.int .i64 r5.Rows), .sl (r5.Classes.map (eSl (eI .i64)))]) (by kernel_rfl) (by kernel_rfl) (by kernel_rfl) (pass_snap (a := .opn (.tmp 60)) (d0 := .agg [.lit (.int .i64 r3.Rows), .sl (r3.Classes.map (eSl (eI .i64)))]) (d := .agg [.lit (.int .i64 r3.Rows), .sl (r3.Classes.map (eSl (eI .i64)))]) (by kernel_rfl) (by kernel_rfl) (by kernel_rfl) pass_nil)) h12 (by kernel_rfl) (by kernel_rfl) ?_
          refine AtO.seg 6 (by kernel_rfl) ?_
          refine AtO.done (p' := [1, 1, 1, 1, 1, 1, 0]) (F' := [(4, .box [.lit (.int .i64 r3.Rows), .sl (r3.Classes.map (eSl (eI .i64)))]), (5, .box [.lit (.int .i64 r5.Rows), .sl (r5.Classes.map (eSl (eI .i64)))]), (6, .box [.lit (.int .i64 r7.Rows), .sl (r7.Classes.map (eSl (eI .i64)))]), (7, .box [.lit (.int .i64 r9.1.Rows), .sl (r9.1.Classes.map (eSl (eI .i64)))]), (8, .lit (.int .i64 r9.2)), (9, .box [.lit (.int .i64 r11.1.Rows), .sl (r11.1.Classes.map (eSl (eI .i64)))]), (10, .lit (.int .i64 r11.2))]) (by kernel_rfl) (by kernel_rfl) (by kernel_rfl) ?_
          refine Pt.reg (by kernel_rfl) ?_
          obtain ⟨r13, h14, h⟩ := h
          refine AtO.seg 2 (by kernel_rfl) ?_
          refine AtO.callZ (x := (.func 20)) (g := 20) (caps := []) (agl := [.opn (.tmp 65), .opn (.tmp 66)]) (ds := [.agg [.lit (.int .i64 r5.Rows), .sl (r5.Classes.map (eSl (eI .i64)))], .agg [.lit (.int .i64 r7.Rows), .sl (r7.Classes.map (eSl (eI .i64)))]]) (r := .tup [.agg [.lit (.int .i64 r13.1.Rows), .sl (r13.1.Classes.map (eSl (eI .i64)))], .lit (.int .i64 r13.2)]) (r' := .tup [.agg [.lit (.int .i64 r13.1.Rows), .sl (r13.1.Classes.map (eSl (eI .i64)))], .lit (.int .i64 r13.2)]) (ms := [none, none]) (by kernel_rfl) (by kernel_rfl) (by kernel_rfl) (by kernel_rfl) (by kernel_rfl) (by kernel_rfl) (pass_snap (a := .opn (.tmp 65)) (d0 := .agg [.lit (.int .i64 r5.Rows), .sl (r5.Classes.map (eSl (eI .i64)))]) (d := .agg [.lit (.int .i64 r5.Rows), .sl (r5.Classes.map (eSl (eI .i64)))]) (by kernel_rfl) (by kernel_rfl) (by kernel_rfl) (pass_snap (a := .opn (.tmp 66)) (d0 := .agg [.lit (.int .i64 r7.Rows), .sl (r7.Classes.map (eSl (eI .i64)))]) (d := .agg [.lit (.int .i64 r7.Rows), .sl (r7.Classes.map (eSl (eI .i64)))]) (by kernel_rfl) (by kernel_rfl) (by kernel_rfl) pass_nil)) h14 (by kernel_rfl) (by kernel_rfl) ?_
          refine AtO.seg 6 (by kernel_rfl) ?_
          refine AtO.done (p' := [1, 1, 1, 1, 1, 1, 1, 0]) (F' := [(4, .box [.lit (.int .i64 r3.Rows), .sl (r3.Classes.map (eSl (eI .i64)))]), (6, .box [.lit (.int .i64 r7.Rows), .sl (r7.Classes.map (eSl (eI .i64)))]), (7, .box [.lit (.int .i64 r9.1.Rows), .sl (r9.1.Classes.map (eSl (eI .i64)))]), (8, .lit (.int .i64 r9.2)), (9, .box [.lit (.int .i64 r11.1.Rows), .sl (r11.1.Classes.map (eSl (eI .i64)))]), (10, .lit (.int .i64 r11.2)), (11, .box [.lit (.int .i64 r13.1.Rows), .sl (r13.1.Classes.map (eSl (eI .i64)))]), (12, .lit (.int .i64 r13.2))]) (by kernel_rfl) (by kernel_rfl) (by kernel_rfl) ?_
          refine Pt.reg (by kernel_rfl) ?_
          obtain ⟨r15, h16, h⟩ := h
          refine AtO.seg 2 (by kernel_rfl) ?_
          refine AtO.callZ (x := (.func 20)) (g := 20) (caps := []) (agl := [.opn (.tmp 71), .opn (.tmp 72)]) (ds := [.agg [.lit (.int .i64 r9.1.Rows), .sl (r9.1.Classes.map (eSl (eI .i64)))], .agg [.lit (.int .i64 r7.Rows), .sl (r7.Classes.map (eSl (eI .i64)))]]) (r := .tup [.agg [.lit (.int .i64 r15.1.Rows), .sl (r15.1.Classes.map (eSl (eI .i64)))], .lit (.int .i64 r15.2)]) (r' := .tup [.agg [.lit (.int .i64 r15.1.Rows), .sl (r15.1.Classes.map (eSl (eI .i64)))], .lit (.int .i64 r15.2)]) (ms := [none, none]) (by kernel_rfl) (by kernel_rfl) (by kernel_rfl) (by kernel_rfl) (by kernel_rfl) (by kernel_rfl) (pass_snap (a := .opn (.tmp 71)) (d0 := .agg [.lit (.int .i64 r9.1.Rows), .sl (r9.1.Classes.map (eSl (eI .i64)))]) (d := .agg [.lit (.int .i64 r9.1.Rows), .sl (r9.1.Classes.map (eSl (eI .i64)))]) (by kernel_rfl) (by kernel_rfl) (by kernel_rfl) (pass_snap (a := .opn (.tmp 72)) (d0 := .agg [.lit (.int .i64 r7.Rows), .sl (r7.Classes.map (eSl (eI .i64)))]) (d := .agg [.lit (.int .i64 r7.Rows), .sl (r7.Classes.map (eSl (eI .i64)))]) (by kernel_rfl) (by kernel_rfl) (by kernel_rfl) pass_nil)) h16 (by kernel_rfl) (by kernel_rfl) ?_
          refine AtO.seg 6 (by kernel_rfl) ?_
          refine AtO.done (p' := [1, 1, 1, 1, 1, 1, 1, 1, 0]) (F' := [(4, .box [.lit (.int .i64 r3.Rows), .sl (r3.Classes.map (eSl (eI .i64)))]), (7, .box [.lit (.int .i64 r9.1.Rows), .sl (r9.1.Classes.map (eSl (eI .i64)))]), (8, .lit (.int .i64 r9.2)), (9, .box [.lit (.int .i64 r11.1.Rows), .sl (r11.1.Classes.map (eSl (eI .i64)))]), (10, .lit (.int .i64 r11.2)), (11, .box [.lit (.int .i64 r13.1.Rows), .sl (r13.1.Classes.map (eSl (eI .i64)))]), (12, .lit (.int .i64 r13.2)), (13, .box [.lit (.int .i64 r15.1.Rows), .sl (r15.1.Classes.map (eSl (eI .i64)))]), (14, .lit (.int .i64 r15.2))]) (by kernel_rfl) (by kernel_rfl) (by kernel_rfl) ?_
          refine Pt.reg (by kernel_rfl) ?_
          obtain ⟨r17, h18, h⟩ := h
          refine AtO.seg 2 (by kernel_rfl) ?_
          refine AtO.callZ (x := (.func 20)) (g := 20) (caps := []) (agl := [.opn (.tmp 77), .opn (.tmp 78)]) (ds := [.agg [.lit (.int .i64 r3.Rows), .sl (r3.Classes.map (eSl (eI .i64)))], .agg [.lit (.int .i64 r13.1.Rows), .sl (r13.1.Classes.map (eSl (eI .i64)))]]) (r := .tup [.agg [.lit (.int .i64 r17.1.Rows), .sl (r17.1.Classes.map (eSl (eI .i64)))], .lit (.int .i64 r17.2)]) (r' := .tup [.agg [.lit (.int .i64 r17.1.Rows), .sl (r17.1.Classes.map (eSl (eI .i64)))], .lit (.int .i64 r17.2)]) (ms := [none, none]) (by kernel_rfl) (by kernel_rfl) (by kernel_rfl) (by kernel_rfl) (by kernel_rfl) (by kernel_rfl) (pass_snap (a := .opn (.tmp 77)) (d0 := .agg [.lit (.int .i64 r3.Rows), .sl (r3.Classes.map (eSl (eI .i64)))]) (d := .agg [.lit (.int .i64 r3.Rows), .sl (r3.Classes.map (eSl (eI .i64)))]) (by kernel_rfl) (by kernel_rfl) (by kernel_rfl) (pass_snap (a := .opn (.tmp 78)) (d0 := .agg [.lit (.int .i64 r13.1.Rows), .sl (r13.1.Classes.map (eSl (eI .i64)))]) (d := .agg [.lit (.int .i64 r13.1.Rows), .sl (r13.1.Classes.map (eSl (eI .i64)))]) (by kernel_rfl) (by kernel_rfl) (by kernel_rfl) pass_nil)) h18 (by kernel_rfl) (by kernel_rfl) ?_
          refine AtO.seg 6 (by kernel_rfl) ?_
          refine AtO.done (p' := [1, 1, 1, 1, 1, 1, 1, 1, 1, 0]) (F' := [(4, .box [.lit (.int .i64 r3.Rows), .sl (r3.Classes.map (eSl (eI .i64)))]), (7, .box [.lit (.int .i64 r9.1.Rows), .sl (r9.1.Classes.map (eSl (eI .i64)))]), (8, .lit (.int .i64 r9.2)), (9, .box [.lit (.int .i64 r11.1.Rows), .sl (r11.1.Classes.map (eSl (eI .i64)))]), (10, .lit (.int .i64 r11.2)), (12, .lit (.int .i64 r13.2)), (13, .box [.lit (.int .i64 r15.1.Rows), .sl (r15.1.Classes.map (eSl (eI .i64)))]), (14, .lit (.int .i64 r15.2)), (15, .box [.lit (.int .i64 r17.1.Rows), .sl (r17.1.Classes.map (eSl (eI .i64)))]), (16, .lit (.int .i64 r17.2))]) (by kernel_rfl) (by kernel_rfl) (by kernel_rfl) ?_
          refine Pt.reg (by kernel_rfl) ?_
          obtain ⟨r19, h20, h⟩ := h
          refine AtO.seg 2 (by kernel_rfl) ?_
          refine AtO.callZ (x := (.func 20)) (g := 20) (caps := []) (agl := [.opn (.tmp 83), .opn (.tmp 84)]) (ds := [.agg [.lit (.int .i64 r3.Rows), .sl (r3.Classes.map (eSl (eI .i64)))], .agg [.lit (.int .i64 r3.Rows), .sl (r3.Classes.map (eSl (eI .i64)))]]) (r := .tup [.agg [.lit (.int .i64 r19.1.Rows), .sl (r19.1.Classes.map (eSl (eI .i64)))], .lit (.int .i64 r19.2)]) (r' := .tup [.agg [.lit (.int .i64 r19.1.Rows), .sl (r19.1.Classes.map (eSl (eI .i64)))], .lit (.int .i64 r19.2)]) (ms := [none, none]) (by kernel_rfl) (by kernel_rfl) (by kernel_rfl) (by kernel_rfl) (by kernel_rfl) (by kernel_rfl) (pass_snap (a := .opn (.tmp 83)) (d0 := .agg [.lit (.int .i64 r3.Rows), .sl (r3.Classes.map (eSl (eI .i64)))]) (d := .agg [.lit (.int .i64 r3.Rows), .sl (r3.Classes.map (eSl (eI .i64)))]) (by kernel_rfl) (by kernel_rfl) (by kernel_rfl) (pass_snap (a := .opn (.tmp 84)) (d0 := .agg [.lit (.int .i64 r3.Rows), .sl (r3.Classes.map (eSl (eI .i64)))]) (d := .agg [.lit (.int .i64 r3.Rows), .sl (r3.Classes.map (eSl (eI .i64)))]) (by kernel_rfl) (by kernel_rfl) (by kernel_rfl) pass_nil)) h20 (by kernel_rfl) (by kernel_rfl) ?_
          refine AtO.seg 6 (by kernel_rfl) ?_
          refine AtO.done (p' := [1, 1, 1, 1, 1, 1, 1, 1, 1, 1, 0, 0]) (F' := [(4, .box [.lit (.int .i64 r3.Rows), .sl (r3.Classes.map (eSl (eI .i64)))]), (7, .box [.lit (.int .i64 r9.1.Rows), .sl (r9.1.Classes.map (eSl (eI .i64)))]), (8, .lit (.int .i64 r9.2)), (9, .box [.lit (.int .i64 r11.1.Rows), .sl (r11.1.Classes.map (eSl (eI .i64)))]), (10, .lit (.int .i64 r11.2)), (12, .lit (.int .i64 r13.2)), (13, .box [.lit (.int .i64 r15.1.Rows), .sl (r15.1.Classes.map (eSl (eI .i64)))]), (14, .lit (.int .i64 r15.2)), (15, .box [.lit (.int .i64 r17.1.Rows), .sl (r17.1.Classes.map (eSl (eI .i64)))]), (16, .lit (.int .i64 r17.2)), (17, .box [.lit (.int .i64 r19.1.Rows), .sl (r19.1.Classes.map (eSl (eI .i64)))]), (18, .lit (.int .i64 r19.2))]) (by kernel_rfl) (by kernel_rfl) (by kernel_rfl) ?_
          refine Pt.reg (by kernel_rfl) ?_
          refine AtO.seg 1 (by kernel_rfl) ?_
          refine AtO.bool (b := (r9.2 != 0)) (by kernel_rfl) (by kernel_rfl) (fun hc => ?_) (fun hc => ?_)
          · have h := ite_f h (bne_t hc)
            refine AtO.seg 20 (by kernel_rfl) ?_
            refine AtO.done (p' := [1, 1, 1, 1, 1, 1, 1, 1, 1, 1, 0, 1]) (F' := [(4, .box [.lit (.int .i64 r3.Rows), .sl (r3.Classes.map (eSl (eI .i64)))]), (7, .box [.lit (.int .i64 r9.1.Rows), .sl (r9.1.Classes.map (eSl (eI .i64)))]), (9, .box [.lit (.int .i64 r11.1.Rows), .sl (r11.1.Classes.map (eSl (eI .i64)))]), (13, .box [.lit (.int .i64 r15.1.Rows), .sl (r15.1.Classes.map (eSl (eI .i64)))]), (15, .box [.lit (.int .i64 r17.1.Rows), .sl (r17.1.Classes.map (eSl (eI .i64)))]), (17, .box [.lit (.int .i64 r19.1.Rows), .sl (r19.1.Classes.map (eSl (eI .i64)))]), (109, .lit (.bool true))]) (by kernel_rfl) (by kernel_rfl) (by kernel_rfl) ?_
            refine Pt.cond_t (p' := [1, 1, 1, 1, 1, 1, 1, 1, 1, 1, 0, 1, 0, 0]) (F' := []) (y := (.tmp 109)) (by kernel_rfl) (by kernel_rfl) (by kernel_rfl) (by kernel_rfl) ?_
            refine Pt.reg (by kernel_rfl) ?_
            refine AtO.seg 1 (by kernel_rfl) ?_
            refine AtO.done (p' := [1, 1, 1, 1, 1, 1, 1, 1, 1, 1, 0, 1, 0, 1]) (F' := [(2, .lit (.bool false))]) (by kernel_rfl) (by kernel_rfl) (by kernel_rfl) ?_
            exact Pt.ret false (by kernel_rfl) (by kernel_rfl) h
          · have h := ite_t h (bne_f hc)
            refine AtO.seg 2 (by kernel_rfl) ?_
            refine AtO.bool (b := (r11.2 != 0)) (by kernel_rfl) (by kernel_rfl) (fun hc => ?_) (fun hc => ?_)
            · have h := ite_f h (bne_t hc)
              refine AtO.seg 17 (by kernel_rfl) ?_
              refine AtO.done (p' := [1, 1, 1, 1, 1, 1, 1, 1, 1, 1, 0, 1]) (F' := [(4, .box [.lit (.int .i64 r3.Rows), .sl (r3.Classes.map (eSl (eI .i64)))]), (7, .box [.lit (.int .i64 r9.1.Rows), .sl (r9.1.Classes.map (eSl (eI .i64)))]), (9, .box [.lit (.int .i64 r11.1.Rows), .sl (r11.1.Classes.map (eSl (eI .i64)))]), (13, .box [.lit (.int .i64 r15.1.Rows), .sl (r15.1.Classes.map (eSl (eI .i64)))]), (15, .box [.lit (.int .i64 r17.1.Rows), .sl (r17.1.Classes.map (eSl (eI .i64)))]), (17, .box [.lit (.int .i64 r19.1.Rows), .sl (r19.1.Classes.map (eSl (eI .i64)))]), (109, .lit (.bool true))]) (by kernel_rfl) (by kernel_rfl) (by kernel_rfl) ?_
              refine Pt.cond_t (p' := [1, 1, 1, 1, 1, 1, 1, 1, 1, 1, 0, 1, 0, 0]) (F' := []) (y := (.tmp 109)) (by kernel_rfl) (by kernel_rfl) (by kernel_rfl) (by kernel_rfl) ?_
              refine Pt.reg (by kernel_rfl) ?_
              refine AtO.seg 1 (by kernel_rfl) ?_
              refine AtO.done (p' := [1, 1, 1, 1, 1, 1, 1, 1, 1, 1, 0, 1, 0, 1]) (F' := [(2, .lit (.bool false))]) (by kernel_rfl) (by kernel_rfl) (by kernel_rfl) ?_
              exact Pt.ret false (by kernel_rfl) (by kernel_rfl) h
            · have h := ite_t h (bne_f hc)
              refine AtO.seg 3 (by kernel_rfl) ?_
              refine AtO.bool (b := (r13.2 != 0)) (by kernel_rfl) (by kernel_rfl) (fun hc => ?_) (fun hc => ?_)
              · have h := ite_f h (bne_t hc)
                refine AtO.seg 13 (by kernel_rfl) ?_
                refine AtO.done (p' := [1, 1, 1, 1, 1, 1, 1, 1, 1, 1, 0, 1]) (F' := [(4, .box [.lit (.int .i64 r3.Rows), .sl (r3.Classes.map (eSl (eI .i64)))]), (7, .box [.lit (.int .i64 r9.1.Rows), .sl (r9.1.Classes.map (eSl (eI .i64)))]), (9, .box [.lit (.int .i64 r11.1.Rows), .sl (r11.1.Classes.map (eSl (eI .i64)))]), (13, .box [.lit (.int .i64 r15.1.Rows), .sl (r15.1.Classes.map (eSl (eI .i64)))]), (15, .box [.lit (.int .i64 r17.1.Rows), .sl (r17.1.Classes.map (eSl (eI .i64)))]), (17, .box [.lit (.int .i64 r19.1.Rows), .sl (r19.1.Classes.map (eSl (eI .i64)))]), (109, .lit (.bool true))]) (by kernel_rfl) (by kernel_rfl) (by kernel_rfl) ?_
                refine Pt.cond_t (p' := [1, 1, 1, 1, 1, 1, 1, 1, 1, 1, 0, 1, 0, 0]) (F' := []) (y := (.tmp 109)) (by kernel_rfl) (by kernel_rfl) (by kernel_rfl) (by kernel_rfl) ?_
                refine Pt.reg (by kernel_rfl) ?_
                refine AtO.seg 1 (by kernel_rfl) ?_
                refine AtO.done (p' := [1, 1, 1, 1, 1, 1, 1, 1, 1, 1, 0, 1, 0, 1]) (F' := [(2, .lit (.bool false))]) (by kernel_rfl) (by kernel_rfl) (by kernel_rfl) ?_
                exact Pt.ret false (by kernel_rfl) (by kernel_rfl) h
              · have h := ite_t h (bne_f hc)
                refine AtO.seg 3 (by kernel_rfl) ?_
                refine AtO.bool (b := (r15.2 != 0)) (by kernel_rfl) (by kernel_rfl) (fun hc => ?_) (fun hc => ?_)
                · have h := ite_f h (bne_t hc)
                  refine AtO.seg 9 (by kernel_rfl) ?_
                  refine AtO.done (p' := [1, 1, 1, 1, 1, 1, 1, 1, 1, 1, 0, 1]) (F' := [(4, .box [.lit (.int .i64 r3.Rows), .sl (r3.Classes.map (eSl (eI .i64)))]), (7, .box [.lit (.int .i64 r9.1.Rows), .sl (r9.1.Classes.map (eSl (eI .i64)))]), (9, .box [.lit (.int .i64 r11.1.Rows), .sl (r11.1.Classes.map (eSl (eI .i64)))]), (13, .box [.lit (.int .i64 r15.1.Rows), .sl (r15.1.Classes.map (eSl (eI .i64)))]), (15, .box [.lit (.int .i64 r17.1.Rows), .sl (r17.1.Classes.map (eSl (eI .i64)))]), (17, .box [.lit (.int .i64 r19.1.Rows), .sl (r19.1.Classes.map (eSl (eI .i64)))]), (109, .lit (.bool true))]) (by kernel_rfl) (by kernel_rfl) (by kernel_rfl) ?_
                  refine Pt.cond_t (p' := [1, 1, 1, 1, 1, 1, 1, 1, 1, 1, 0, 1, 0, 0]) (F' := []) (y := (.tmp 109)) (by kernel_rfl) (by kernel_rfl) (by kernel_rfl) (by kernel_rfl) ?_
                  refine Pt.reg (by kernel_rfl) ?_
                  refine AtO.seg 1 (by kernel_rfl) ?_
                  refine AtO.done (p' := [1, 1, 1, 1, 1, 1, 1, 1, 1, 1, 0, 1, 0, 1]) (F' := [(2, .lit (.bool false))]) (by kernel_rfl) (by kernel_rfl) (by kernel_rfl) ?_
                  exact Pt.ret false (by kernel_rfl) (by kernel_rfl) h
                · have h := ite_t h (bne_f hc)
                  refine AtO.seg 3 (by kernel_rfl) ?_
                  refine AtO.bool (b := (r17.2 != 0)) (by kernel_rfl) (by kernel_rfl) (fun hc => ?_) (fun hc => ?_)
                  · have h := ite_f h (bne_t hc)
                    refine AtO.seg 5 (by kernel_rfl) ?_
                    refine AtO.done (p' := [1, 1, 1, 1, 1, 1, 1, 1, 1, 1, 0, 1]) (F' := [(4, .box [.lit (.int .i64 r3.Rows), .sl (r3.Classes.map (eSl (eI .i64)))]), (7, .box [.lit (.int .i64 r9.1.Rows), .sl (r9.1.Classes.map (eSl (eI .i64)))]), (9, .box [.lit (.int .i64 r11.1.Rows), .sl (r11.1.Classes.map (eSl (eI .i64)))]), (13, .box [.lit (.int .i64 r15.1.Rows), .sl (r15.1.Classes.map (eSl (eI .i64)))]), (15, .box [.lit (.int .i64 r17.1.Rows), .sl (r17.1.Classes.map (eSl (eI .i64)))]), (17, .box [.lit (.int .i64 r19.1.Rows), .sl (r19.1.Classes.map (eSl (eI .i64)))]), (109, .lit (.bool true))]) (by kernel_rfl) (by kernel_rfl) (by kernel_rfl) ?_
                    refine Pt.cond_t (p' := [1, 1, 1, 1, 1, 1, 1, 1, 1, 1, 0, 1, 0, 0]) (F' := []) (y := (.tmp 109)) (by kernel_rfl) (by kernel_rfl) (by kernel_rfl) (by kernel_rfl) ?_
                    refine Pt.reg (by kernel_rfl) ?_
                    refine AtO.seg 1 (by kernel_rfl) ?_
                    refine AtO.done (p' := [1, 1, 1, 1, 1, 1, 1, 1, 1, 1, 0, 1, 0, 1]) (F' := [(2, .lit (.bool false))]) (by kernel_rfl) (by kernel_rfl) (by kernel_rfl) ?_
                    exact Pt.ret false (by kernel_rfl) (by kernel_rfl) h
                  · have h := ite_t h (bne_f hc)
                    refine AtO.seg 3 (by kernel_rfl) ?_
                    refine AtO.bool (b := (r19.2 != 0)) (by kernel_rfl) (by kernel_rfl) (fun hc => ?_) (fun hc => ?_)
                    · have h := ite_f h (bne_t hc)
                      refine AtO.seg 1 (by kernel_rfl) ?_
                      refine AtO.done (p' := [1, 1, 1, 1, 1, 1, 1, 1, 1, 1, 0, 1]) (F' := [(4, .box [.lit (.int .i64 r3.Rows), .sl (r3.Classes.map (eSl (eI .i64)))]), (7, .box [.lit (.int .i64 r9.1.Rows), .sl (r9.1.Classes.map (eSl (eI .i64)))]), (9, .box [.lit (.int .i64 r11.1.Rows), .sl (r11.1.Classes.map (eSl (eI .i64)))]), (13, .box [.lit (.int .i64 r15.1.Rows), .sl (r15.1.Classes.map (eSl (eI .i64)))]), (15, .box [.lit (.int .i64 r17.1.Rows), .sl (r17.1.Classes.map (eSl (eI .i64)))]), (17, .box [.lit (.int .i64 r19.1.Rows), .sl (r19.1.Classes.map (eSl (eI .i64)))]), (109, .lit (.bool true))]) (by kernel_rfl) (by kernel_rfl) (by kernel_rfl) ?_
                      refine Pt.cond_t (p' := [1, 1, 1, 1, 1, 1, 1, 1, 1, 1, 0, 1, 0, 0]) (F' := []) (y := (.tmp 109)) (by kernel_rfl) (by kernel_rfl) (by kernel_rfl) (by kernel_rfl) ?_
                      refine Pt.reg (by kernel_rfl) ?_
                      refine AtO.seg 1 (by kernel_rfl) ?_
                      refine AtO.done (p' := [1, 1, 1, 1, 1, 1, 1, 1, 1, 1, 0, 1, 0, 1]) (F' := [(2, .lit (.bool false))]) (by kernel_rfl) (by kernel_rfl) (by kernel_rfl) ?_
                      exact Pt.ret false (by kernel_rfl) (by kernel_rfl) h
                    · have h := ite_t h (bne_f hc)
                      refine AtO.seg 1 (by kernel_rfl) ?_
                      refine AtO.done (p' := [1, 1, 1, 1, 1, 1, 1, 1, 1, 1, 0, 1]) (F' := [(4, .box [.lit (.int .i64 r3.Rows), .sl (r3.Classes.map (eSl (eI .i64)))]), (7, .box [.lit (.int .i64 r9.1.Rows), .sl (r9.1.Classes.map (eSl (eI .i64)))]), (9, .box [.lit (.int .i64 r11.1.Rows), .sl (r11.1.Classes.map (eSl (eI .i64)))]), (13, .box [.lit (.int .i64 r15.1.Rows), .sl (r15.1.Classes.map (eSl (eI .i64)))]), (15, .box [.lit (.int .i64 r17.1.Rows), .sl (r17.1.Classes.map (eSl (eI .i64)))]), (17, .box [.lit (.int .i64 r19.1.Rows), .sl (r19.1.Classes.map (eSl (eI .i64)))]), (109, .lit (.bool false))]) (by kernel_rfl) (by kernel_rfl) (by kernel_rfl) ?_
                      refine Pt.cond_f (p' := [1, 1, 1, 1, 1, 1, 1, 1, 1, 1, 0, 1, 1]) (F' := [(4, .box [.lit (.int .i64 r3.Rows), .sl (r3.Classes.map (eSl (eI .i64)))]), (7, .box [.lit (.int .i64 r9.1.Rows), .sl (r9.1.Classes.map (eSl (eI .i64)))]), (9, .box [.lit (.int .i64 r11.1.Rows), .sl (r11.1.Classes.map (eSl (eI .i64)))]), (13, .box [.lit (.int .i64 r15.1.Rows), .sl (r15.1.Classes.map (eSl (eI .i64)))]), (15, .box [.lit (.int .i64 r17.1.Rows), .sl (r17.1.Classes.map (eSl (eI .i64)))]), (17, .box [.lit (.int .i64 r19.1.Rows), .sl (r19.1.Classes.map (eSl (eI .i64)))])]) (y := (.tmp 109)) (by kernel_rfl) (by kernel_rfl) (by kernel_rfl) (by kernel_rfl) ?_
                      refine Pt.skip (p' := [1, 1, 1, 1, 1, 1, 1, 1, 1, 1, 1, 0]) (by kernel_rfl) (by kernel_rfl) ?_
                      refine Pt.reg (by kernel_rfl) ?_
                      obtain ⟨r21, h22, h⟩ := h
                      refine AtO.seg 2 (by kernel_rfl) ?_
                      refine AtO.call0 (x := (.func 14)) (g := 14) (caps := []) (agl := [.opn (.tmp 110), .opn (.tmp 111)]) (ds := [.agg [.lit (.int .i64 r9.1.Rows), .sl (r9.1.Classes.map (eSl (eI .i64)))], .agg [.lit (.int .i64 r11.1.Rows), .sl (r11.1.Classes.map (eSl (eI .i64)))]]) (r := .lit (.bool r21)) (r' := .lit (.bool r21)) (ms := [none, none]) (by kernel_rfl) (by kernel_rfl) (by kernel_rfl) (by kernel_rfl) (by kernel_rfl) (by kernel_rfl) (pass_snap (a := .opn (.tmp 110)) (d0 := .agg [.lit (.int .i64 r9.1.Rows), .sl (r9.1.Classes.map (eSl (eI .i64)))]) (d := .agg [.lit (.int .i64 r9.1.Rows), .sl (r9.1.Classes.map (eSl (eI .i64)))]) (by kernel_rfl) (by kernel_rfl) (by kernel_rfl) (pass_snap (a := .opn (.tmp 111)) (d0 := .agg [.lit (.int .i64 r11.1.Rows), .sl (r11.1.Classes.map (eSl (eI .i64)))]) (d := .agg [.lit (.int .i64 r11.1.Rows), .sl (r11.1.Classes.map (eSl (eI .i64)))]) (by kernel_rfl) (by kernel_rfl) (by kernel_rfl) pass_nil)) h22 rfl (by kernel_rfl) ?_
                      refine AtO.putb (fun hc => ?_) (fun hc => ?_)
                      · have h := ite_t h (id hc)
                        obtain ⟨r23, h24, h⟩ := h
                        refine AtO.seg 3 (by kernel_rfl) ?_
                        refine AtO.call0 (x := (.func 14)) (g := 14) (caps := []) (agl := [.opn (.tmp 114), .opn (.tmp 115)]) (ds := [.agg [.lit (.int .i64 r15.1.Rows), .sl (r15.1.Classes.map (eSl (eI .i64)))], .agg [.lit (.int .i64 r17.1.Rows), .sl (r17.1.Classes.map (eSl (eI .i64)))]]) (r := .lit (.bool r23)) (r' := .lit (.bool r23)) (ms := [none, none]) (by kernel_rfl) (by kernel_rfl) (by kernel_rfl) (by kernel_rfl) (by kernel_rfl) (by kernel_rfl) (pass_snap (a := .opn (.tmp 114)) (d0 := .agg [.lit (.int .i64 r15.1.Rows), .sl (r15.1.Classes.map (eSl (eI .i64)))]) (d := .agg [.lit (.int .i64 r15.1.Rows), .sl (r15.1.Classes.map (eSl (eI .i64)))]) (by kernel_rfl) (by kernel_rfl) (by kernel_rfl) (pass_snap (a := .opn (.tmp 115)) (d0 := .agg [.lit (.int .i64 r17.1.Rows), .sl (r17.1.Classes.map (eSl (eI .i64)))]) (d := .agg [.lit (.int .i64 r17.1.Rows), .sl (r17.1.Classes.map (eSl (eI .i64)))]) (by kernel_rfl) (by kernel_rfl) (by kernel_rfl) pass_nil)) h24 rfl (by kernel_rfl) ?_
                        refine AtO.putb (fun hc => ?_) (fun hc => ?_)
                        · have h := ite_t h (id hc)
                          obtain ⟨r25, h26, h⟩ := h
                          refine AtO.seg 4 (by kernel_rfl) ?_
                          refine AtO.call0 (x := (.func 14)) (g := 14) (caps := []) (agl := [.opn (.tmp 119), .opn (.tmp 120)]) (ds := [.agg [.lit (.int .i64 r19.1.Rows), .sl (r19.1.Classes.map (eSl (eI .i64)))], .agg [.lit (.int .i64 r3.Rows), .sl (r3.Classes.map (eSl (eI .i64)))]]) (r := .lit (.bool r25)) (r' := .lit (.bool r25)) (ms := [none, none]) (by kernel_rfl) (by kernel_rfl) (by kernel_rfl) (by kernel_rfl) (by kernel_rfl) (by kernel_rfl) (pass_snap (a := .opn (.tmp 119)) (d0 := .agg [.lit (.int .i64 r19.1.Rows), .sl (r19.1.Classes.map (eSl (eI .i64)))]) (d := .agg [.lit (.int .i64 r19.1.Rows), .sl (r19.1.Classes.map (eSl (eI .i64)))]) (by kernel_rfl) (by kernel_rfl) (by kernel_rfl) (pass_snap (a := .opn (.tmp 120)) (d0 := .agg [.lit (.int .i64 r3.Rows), .sl (r3.Classes.map (eSl (eI .i64)))]) (d := .agg [.lit (.int .i64 r3.Rows), .sl (r3.Classes.map (eSl (eI .i64)))]) (by kernel_rfl) (by kernel_rfl) (by kernel_rfl) pass_nil)) h26 rfl (by kernel_rfl) ?_
                          refine AtO.seg 2 (by kernel_rfl) ?_
                          refine AtO.done (p' := [1, 1, 1, 1, 1, 1, 1, 1, 1, 1, 1, 1]) (F' := [(2, .lit (.bool r25))]) (by kernel_rfl) (by kernel_rfl) (by kernel_rfl) ?_
                          exact Pt.ret r25 (by kernel_rfl) (by kernel_rfl) h
                        · have h := ite_f h (fls hc)
                          refine AtO.seg 7 (by kernel_rfl) ?_
                          refine AtO.done (p' := [1, 1, 1, 1, 1, 1, 1, 1, 1, 1, 1, 1]) (F' := [(2, .lit (.bool false))]) (by kernel_rfl) (by kernel_rfl) (by kernel_rfl) ?_
                          exact Pt.ret false (by kernel_rfl) (by kernel_rfl) h
                      · have h := ite_f h (fls hc)
                        refine AtO.seg 11 (by kernel_rfl) ?_
                        refine AtO.done (p' := [1, 1, 1, 1, 1, 1, 1, 1, 1, 1, 1, 1]) (F' := [(2, .lit (.bool false))]) (by kernel_rfl) (by kernel_rfl) (by kernel_rfl) ?_
                        exact Pt.ret false (by kernel_rfl) (by kernel_rfl) h
  · have h := ite_f h (fls hc)
    refine AtO.seg 19 (by kernel_rfl) ?_
    refine AtO.done (p' := [1, 1, 0, 1]) (F' := [(0, .agg [.sl (x0.1.map (eI .u8)), .sl (x0.2.1.map (eI .u8)), .sl (x0.2.2.map (eI .u8))]), (1, .box [.sl (x0.1.map (eI .u8)), .sl (x0.2.1.map (eI .u8)), .sl (x0.2.2.map (eI .u8))]), (41, .lit (.bool true))]) (by kernel_rfl) (by kernel_rfl) (by kernel_rfl) ?_
    refine Pt.cond_t (p' := [1, 1, 0, 1, 0, 0]) (F' := []) (y := (.tmp 41)) (by kernel_rfl) (by kernel_rfl) (by kernel_rfl) (by kernel_rfl) ?_
    exact h
end drosslaw08_PartitionLaws
end Go.Own
