/- What the functions that the law reaches answer. No conditions. -/
import Derived.Test.YtgclpapfgmckbaaDoorBase6
import Derived.Test.YtgclpapfgmckbaaDoorOwn15
import Derived.Test.YtgclpapfgmckbaaDoorBase2
import Derived.Test.YtgclpapfgmckbaaDoorPartitionLeastLaw3
import Derived.Test.YtgclpapfgmckbaaDoorOwn17
set_option linter.all false

namespace Go.Own
open Go.Proofs D
set_option maxRecDepth 100000
set_option maxHeartbeats 4000000
namespace partition_Product
noncomputable def B : Code := (Tryd.f20.body).getD .skip
def W : List Nat := [0, 1, 2, 3, 4, 5, 6, 7, 8, 9, 10, 15, 26, 27, 28]
def res (r : api_Partition × Int) : D × List D := (.tup [.agg [.lit (.int .i64 r.1.Rows), .sl (r.1.Classes.map (eSl (eI .i64)))], .lit (.int .i64 r.2)], [])
def C (x0 : api_Partition) (x1 : api_Partition) (r : api_Partition × Int) : Prop := Ret env 20 [.agg [.lit (.int .i64 x0.Rows), .sl (x0.Classes.map (eSl (eI .i64)))], .agg [.lit (.int .i64 x1.Rows), .sl (x1.Classes.map (eSl (eI .i64)))]] (res r).1 (res r).2
def L1 (x0 : api_Partition) (r3 : List Int) (r5 : List Int) (y9_L1 : List (Int × Int)) (y27_L1 : Int) (φ : api_Partition × Int → Prop) : Prop := Pt env 20 W B [1, 1, 1, 1, 0, 1, 0] [(0, .agg [.lit (.int .i64 x0.Rows), .sl (x0.Classes.map (eSl (eI .i64)))]), (2, .box [.lit (.int .i64 x0.Rows), .sl (x0.Classes.map (eSl (eI .i64)))]), (4, .box [.lit (.int .i64 0), .own []]), (7, .own (r3.map (eI .i64))), (8, .own (r5.map (eI .i64))), (9, .own (y9_L1.map enc_arr2_Int)), (26, .lit (.int .i64 (((List.replicate x0.Rows.toNat (⟨0, 0⟩ : (Int × Int))).length : Int)))), (27, .lit (.int .i64 y27_L1))] (Lv env 20 Tryd.f20 2 res φ)
theorem L1_step (x0 : api_Partition) (r3 : List Int) (r5 : List Int) (y9_L1 : List (Int × Int)) (y27_L1 : Int) (φ : api_Partition × Int → Prop) (h :
    (if y27_L1 < ((List.replicate x0.Rows.toNat (⟨0, 0⟩ : (Int × Int))).length : Int) then
      ∃ a8, lget r3 y27_L1 = some a8 ∧
      ∃ a10, lget r5 y27_L1 = some a10 ∧
      ∃ a12, lget y9_L1 y27_L1 = some a12 ∧
      partition_Product.L1 x0 r3 r5 ((lset y9_L1 y27_L1 ⟨a8, a10⟩)) ((IntKind.wrap .i64 (y27_L1 + 1))) φ
    else
      ∃ r14 : List (List Int), partition_groups_2_int.C y9_L1 r14 ∧
      φ (((⟨x0.Rows, r14⟩ : api_Partition), 0)))) : L1 x0 r3 r5 y9_L1 y27_L1 φ := by
  unfold L1
  refine Pt.loop (p' := [1, 1, 1, 1, 0, 1, 0, 0, 0]) (by kernel_rfl) (by kernel_rfl) ?_
  refine Pt.reg (by kernel_rfl) ?_
  refine AtO.bool (b := (decide (y27_L1 < ((List.replicate x0.Rows.toNat (⟨0, 0⟩ : (Int × Int))).length : Int)))) (by kernel_rfl) (by kernel_rfl) (fun hc => ?_) (fun hc => ?_)
  · have h := ite_t h (of_decide_eq_true hc)
    refine AtO.go (p' := [1, 1, 1, 1, 0, 1, 0, 0, 1, 1, 0, 0, 0]) (F' := [(0, .agg [.lit (.int .i64 x0.Rows), .sl (x0.Classes.map (eSl (eI .i64)))]), (2, .box [.lit (.int .i64 x0.Rows), .sl (x0.Classes.map (eSl (eI .i64)))]), (4, .box [.lit (.int .i64 0), .own []]), (7, .own (r3.map (eI .i64))), (8, .own (r5.map (eI .i64))), (9, .own (y9_L1.map enc_arr2_Int)), (26, .lit (.int .i64 (((List.replicate x0.Rows.toNat (⟨0, 0⟩ : (Int × Int))).length : Int)))), (27, .lit (.int .i64 y27_L1))]) 2 (by kernel_rfl) (by kernel_rfl) ?_
    refine Pt.reg (by kernel_rfl) ?_
    refine AtO.seg 2 (by kernel_rfl) ?_
    refine AtO.go (p' := [1, 1, 1, 1, 0, 1, 0, 0, 1, 1, 0, 0, 1]) (F' := [(0, .agg [.lit (.int .i64 x0.Rows), .sl (x0.Classes.map (eSl (eI .i64)))]), (2, .box [.lit (.int .i64 x0.Rows), .sl (x0.Classes.map (eSl (eI .i64)))]), (4, .box [.lit (.int .i64 0), .own []]), (7, .own (r3.map (eI .i64))), (8, .own (r5.map (eI .i64))), (9, .own (y9_L1.map enc_arr2_Int)), (10, .lit (.int .i64 y27_L1)), (26, .lit (.int .i64 (((List.replicate x0.Rows.toNat (⟨0, 0⟩ : (Int × Int))).length : Int)))), (27, .lit (.int .i64 y27_L1))]) 0 (by kernel_rfl) (by kernel_rfl) ?_
    refine Pt.reg (by kernel_rfl) ?_
    obtain ⟨a8, h9, h⟩ := h
    refine AtO.seg 4 (by kernel_rfl) ?_
    refine AtO.val (by kernel_rfl) (val_idx_ow (s := 7) (ps := []) (t := 38) (x := (.tmp 32)) (ix := (.tmp 33)) (et := 3) (k := 1) (e := (eI .i64)) (l := r3) (i := y27_L1) (q := .i64) (a := a8) (by kernel_rfl) (by kernel_rfl) (by kernel_rfl) (by kernel_rfl) (by kernel_rfl) (by kernel_rfl) h9 (by kernel_rfl)) ?_
    refine AtO.val (by kernel_rfl) (val_load_ow (t := 3) (x := (.tmp 34)) (s := 7) (ps := []) (n := (y27_L1.toNat)) (c := 0) (e := (eI .i64)) (l := r3) (a := a8) (d := .lit (.int .i64 a8)) (by kernel_rfl) (by kernel_rfl) (by kernel_rfl) (by kernel_rfl) (lget_some h9).2 (by kernel_rfl)) ?_
    obtain ⟨a10, h11, h⟩ := h
    refine AtO.seg 2 (by kernel_rfl) ?_
    refine AtO.val (by kernel_rfl) (val_idx_ow (s := 8) (ps := []) (t := 38) (x := (.tmp 36)) (ix := (.tmp 37)) (et := 3) (k := 1) (e := (eI .i64)) (l := r5) (i := y27_L1) (q := .i64) (a := a10) (by kernel_rfl) (by kernel_rfl) (by kernel_rfl) (by kernel_rfl) (by kernel_rfl) (by kernel_rfl) h11 (by kernel_rfl)) ?_
    refine AtO.val (by kernel_rfl) (val_load_ow (t := 3) (x := (.tmp 38)) (s := 8) (ps := []) (n := (y27_L1.toNat)) (c := 0) (e := (eI .i64)) (l := r5) (a := a10) (d := .lit (.int .i64 a10)) (by kernel_rfl) (by kernel_rfl) (by kernel_rfl) (by kernel_rfl) (lget_some h11).2 (by kernel_rfl)) ?_
    obtain ⟨a12, h13, h⟩ := h
    refine AtO.seg 1 (by kernel_rfl) ?_
    refine AtO.val (by kernel_rfl) (val_idx_ow (s := 9) (ps := []) (t := 73) (x := (.tmp 30)) (ix := (.tmp 31)) (et := 74) (k := 2) (e := enc_arr2_Int) (l := y9_L1) (i := y27_L1) (q := .i64) (a := a12) (by kernel_rfl) (by kernel_rfl) (by kernel_rfl) (by kernel_rfl) (by kernel_rfl) (by kernel_rfl) h13 (by kernel_rfl)) ?_
    refine AtO.op (by kernel_rfl) (store1 (t := 74) (x := (.tmp 41)) (y := (.tmp 40)) (s := 9) (ps := []) (n := (y27_L1.toNat)) (c := 0) (e := enc_arr2_Int) (l := y9_L1) (a := a12) (b := ⟨a8, a10⟩) (k := 2) (d := .agg [.lit (.int .i64 a8), .lit (.int .i64 a10)]) (by kernel_rfl) (by kernel_rfl) (by kernel_rfl) (by kernel_rfl) (lget_some h13).2 (by kernel_rfl) (by kernel_rfl) (by kernel_rfl) (by kernel_rfl) (by kernel_rfl) (setG_eq (by kernel_rfl))) ?_
    refine AtO.go (p' := [1, 1, 1, 1, 0, 1, 0, 0, 1, 1, 1]) (F' := [(0, .agg [.lit (.int .i64 x0.Rows), .sl (x0.Classes.map (eSl (eI .i64)))]), (2, .box [.lit (.int .i64 x0.Rows), .sl (x0.Classes.map (eSl (eI .i64)))]), (4, .box [.lit (.int .i64 0), .own []]), (7, .own (r3.map (eI .i64))), (8, .own (r5.map (eI .i64))), (9, .own (((lset y9_L1 y27_L1 ⟨a8, a10⟩)).map enc_arr2_Int)), (26, .lit (.int .i64 (((List.replicate x0.Rows.toNat (⟨0, 0⟩ : (Int × Int))).length : Int)))), (27, .lit (.int .i64 y27_L1))]) 0 (by kernel_rfl) (by kernel_rfl) ?_
    refine Pt.reg (by kernel_rfl) ?_
    refine AtO.seg 2 (by kernel_rfl) ?_
    refine AtO.go (p' := [1, 1, 1, 1, 0, 1, 0]) (F' := [(0, .agg [.lit (.int .i64 x0.Rows), .sl (x0.Classes.map (eSl (eI .i64)))]), (2, .box [.lit (.int .i64 x0.Rows), .sl (x0.Classes.map (eSl (eI .i64)))]), (4, .box [.lit (.int .i64 0), .own []]), (7, .own (r3.map (eI .i64))), (8, .own (r5.map (eI .i64))), (9, .own (((lset y9_L1 y27_L1 ⟨a8, a10⟩)).map enc_arr2_Int)), (26, .lit (.int .i64 (((List.replicate x0.Rows.toNat (⟨0, 0⟩ : (Int × Int))).length : Int)))), (27, .lit (.int .i64 ((IntKind.wrap .i64 (y27_L1 + 1)))))]) 0 (by kernel_rfl) (by kernel_rfl) ?_
    exact h
  · have h := ite_f h (of_decide_eq_false hc)
    refine AtO.go (p' := [1, 1, 1, 1, 0, 1, 0, 0, 1, 0, 1]) (F' := [(0, .agg [.lit (.int .i64 x0.Rows), .sl (x0.Classes.map (eSl (eI .i64)))]), (2, .box [.lit (.int .i64 x0.Rows), .sl (x0.Classes.map (eSl (eI .i64)))]), (4, .box [.lit (.int .i64 0), .own []]), (9, .own (y9_L1.map enc_arr2_Int))]) 1 (by kernel_rfl) (by kernel_rfl) ?_
    refine Pt.exit (p' := [1, 1, 1, 1, 1, 0]) (F' := [(0, .agg [.lit (.int .i64 x0.Rows), .sl (x0.Classes.map (eSl (eI .i64)))]), (2, .box [.lit (.int .i64 x0.Rows), .sl (x0.Classes.map (eSl (eI .i64)))]), (4, .box [.lit (.int .i64 0), .own []]), (9, .sl (y9_L1.map enc_arr2_Int))]) (by kernel_rfl) (by kernel_rfl) (trim_chillW (F0 := [(0, .agg [.lit (.int .i64 x0.Rows), .sl (x0.Classes.map (eSl (eI .i64)))]), (2, .box [.lit (.int .i64 x0.Rows), .sl (x0.Classes.map (eSl (eI .i64)))]), (4, .box [.lit (.int .i64 0), .own []]), (9, .own (y9_L1.map enc_arr2_Int))]) (l := y9_L1) (e := enc_arr2_Int) (e' := enc_arr2_Int) (s := 9) (by kernel_rfl) (by kernel_rfl) (by kernel_rfl) (fun _ => rfl) (by kernel_rfl) (by kernel_rfl)) ?_
    refine Pt.reg (by kernel_rfl) ?_
    obtain ⟨r14, h15, h⟩ := h
    refine AtO.seg 3 (by kernel_rfl) ?_
    refine AtO.callD (x := (.func 42)) (g := 42) (caps := []) (agl := [.opn (.tmp 45)]) (ds := [.sl (y9_L1.map enc_arr2_Int)]) (r := .sl (r14.map (eSl (eI .i64)))) (r' := .sl (r14.map (eSl (eI .i64)))) (by kernel_rfl) (by kernel_rfl) (by kernel_rfl) (by kernel_rfl) (by kernel_rfl) (pass_snap (a := .opn (.tmp 45)) (d0 := .sl (y9_L1.map enc_arr2_Int)) (d := .sl (y9_L1.map enc_arr2_Int)) (by kernel_rfl) (by kernel_rfl) (by kernel_rfl) pass_nil) h15 (by kernel_rfl) (by kernel_rfl) ?_
    refine AtO.seg 3 (by kernel_rfl) ?_
    refine AtO.go (p' := [1, 1, 1, 1, 1, 1]) (F' := [(4, .box [.lit (.int .i64 x0.Rows), .sl (r14.map (eSl (eI .i64)))]), (5, .lit (.int .i64 0))]) 0 (by kernel_rfl) (by kernel_rfl) ?_
    exact Pt.ret (((⟨x0.Rows, r14⟩ : api_Partition), 0)) (by kernel_rfl) (by kernel_rfl) h
theorem enter (x0 : api_Partition) (x1 : api_Partition) (φ : api_Partition × Int → Prop) (h :
    ∃ r1 : Int, partition_both.C x0 x1 r1 ∧
    (if r1 = 0 then
      ∃ r3 : List Int, partition_labels.C x0 r3 ∧
      ∃ r5 : List Int, partition_labels.C x1 r5 ∧
      (0 ≤ x0.Rows ∧ x0.Rows * 16 ≤ 281474976710656) ∧
      partition_Product.L1 x0 r3 r5 ((List.replicate x0.Rows.toNat (⟨0, 0⟩ : (Int × Int)))) 0 φ
    else
      φ (((⟨0, []⟩ : api_Partition), r1)))) : ∃ r, φ r ∧ C x0 x1 r := by
  refine Ret.of_at (E := env) (f := 20) (fd := Tryd.f20) (body := B) (p := [0]) (V := W) (F := [(0, .agg [.lit (.int .i64 x0.Rows), .sl (x0.Classes.map (eSl (eI .i64)))]), (1, .agg [.lit (.int .i64 x1.Rows), .sl (x1.Classes.map (eSl (eI .i64)))]), (2, .undef), (3, .undef), (4, .undef), (5, .undef), (6, .undef), (7, .undef), (8, .undef), (9, .undef), (10, .undef), (15, .undef), (26, .undef), (27, .undef), (28, .undef)]) (res := res) (φ := φ) (ds := [.agg [.lit (.int .i64 x0.Rows), .sl (x0.Classes.map (eSl (eI .i64)))], .agg [.lit (.int .i64 x1.Rows), .sl (x1.Classes.map (eSl (eI .i64)))]]) (by kernel_rfl) (by kernel_rfl) (by kernel_rfl) ⟨Nat.le_of_ble_eq_true (by kernel_rfl), Nat.le_of_ble_eq_true (by kernel_rfl)⟩ (by kernel_rfl) (by kernel_rfl) (by kernel_rfl) ?_
  refine Pt.reg (by kernel_rfl) ?_
  refine AtO.seg 4 (by kernel_rfl) ?_
  refine AtO.go (p' := [1, 0, 0]) (F' := [(0, .agg [.lit (.int .i64 x0.Rows), .sl (x0.Classes.map (eSl (eI .i64)))]), (1, .agg [.lit (.int .i64 x1.Rows), .sl (x1.Classes.map (eSl (eI .i64)))]), (2, .box [.lit (.int .i64 x0.Rows), .sl (x0.Classes.map (eSl (eI .i64)))]), (3, .box [.lit (.int .i64 x1.Rows), .sl (x1.Classes.map (eSl (eI .i64)))]), (4, .box [.lit (.int .i64 0), .own []])]) 0 (by kernel_rfl) (by kernel_rfl) ?_
  refine Pt.reg (by kernel_rfl) ?_
  obtain ⟨r1, h2, h⟩ := h
  refine AtO.seg 2 (by kernel_rfl) ?_
  refine AtO.call0 (x := (.func 40)) (g := 40) (caps := []) (agl := [.opn (.tmp 11), .opn (.tmp 12)]) (ds := [.agg [.lit (.int .i64 x0.Rows), .sl (x0.Classes.map (eSl (eI .i64)))], .agg [.lit (.int .i64 x1.Rows), .sl (x1.Classes.map (eSl (eI .i64)))]]) (r := .lit (.int .i64 r1)) (r' := .lit (.int .i64 r1)) (ms := [none, none]) (by kernel_rfl) (by kernel_rfl) (by kernel_rfl) (by kernel_rfl) (by kernel_rfl) (by kernel_rfl) (pass_snap (a := .opn (.tmp 11)) (d0 := .agg [.lit (.int .i64 x0.Rows), .sl (x0.Classes.map (eSl (eI .i64)))]) (d := .agg [.lit (.int .i64 x0.Rows), .sl (x0.Classes.map (eSl (eI .i64)))]) (by kernel_rfl) (by kernel_rfl) (by kernel_rfl) (pass_snap (a := .opn (.tmp 12)) (d0 := .agg [.lit (.int .i64 x1.Rows), .sl (x1.Classes.map (eSl (eI .i64)))]) (d := .agg [.lit (.int .i64 x1.Rows), .sl (x1.Classes.map (eSl (eI .i64)))]) (by kernel_rfl) (by kernel_rfl) (by kernel_rfl) pass_nil)) h2 rfl (by kernel_rfl) ?_
  refine AtO.seg 1 (by kernel_rfl) ?_
  refine AtO.go (p' := [1, 0, 1, 0]) (F' := [(0, .agg [.lit (.int .i64 x0.Rows), .sl (x0.Classes.map (eSl (eI .i64)))]), (1, .agg [.lit (.int .i64 x1.Rows), .sl (x1.Classes.map (eSl (eI .i64)))]), (2, .box [.lit (.int .i64 x0.Rows), .sl (x0.Classes.map (eSl (eI .i64)))]), (3, .box [.lit (.int .i64 x1.Rows), .sl (x1.Classes.map (eSl (eI .i64)))]), (4, .box [.lit (.int .i64 0), .own []]), (6, .lit (.int .i64 r1))]) 0 (by kernel_rfl) (by kernel_rfl) ?_
  refine Pt.reg (by kernel_rfl) ?_
  refine AtO.seg 1 (by kernel_rfl) ?_
  refine AtO.bool (b := (r1 != 0)) (by kernel_rfl) (by kernel_rfl) (fun hc => ?_) (fun hc => ?_)
  · have h := ite_f h (bne_t hc)
    refine AtO.go (p' := [1, 0, 1, 1, 0, 0]) (F' := [(4, .box [.lit (.int .i64 0), .own []]), (6, .lit (.int .i64 r1))]) 1 (by kernel_rfl) (by kernel_rfl) ?_
    refine Pt.reg (by kernel_rfl) ?_
    refine AtO.seg 4 (by kernel_rfl) ?_
    refine AtO.go (p' := [1, 0, 1, 1, 0, 1]) (F' := [(4, .box [.lit (.int .i64 0), .sl []]), (5, .lit (.int .i64 r1))]) 0 (by kernel_rfl) (by kernel_rfl) ?_
    exact Pt.ret (((⟨0, []⟩ : api_Partition), r1)) (by kernel_rfl) (by kernel_rfl) h
  · have h := ite_t h (bne_f hc)
    refine AtO.go (p' := [1, 1, 0]) (F' := [(0, .agg [.lit (.int .i64 x0.Rows), .sl (x0.Classes.map (eSl (eI .i64)))]), (1, .agg [.lit (.int .i64 x1.Rows), .sl (x1.Classes.map (eSl (eI .i64)))]), (2, .box [.lit (.int .i64 x0.Rows), .sl (x0.Classes.map (eSl (eI .i64)))]), (3, .box [.lit (.int .i64 x1.Rows), .sl (x1.Classes.map (eSl (eI .i64)))]), (4, .box [.lit (.int .i64 0), .own []])]) 2 (by kernel_rfl) (by kernel_rfl) ?_
    refine Pt.reg (by kernel_rfl) ?_
    obtain ⟨r3, h4, h⟩ := h
    refine AtO.seg 1 (by kernel_rfl) ?_
    refine AtO.callD (x := (.func 41)) (g := 41) (caps := []) (agl := [.opn (.tmp 18)]) (ds := [.agg [.lit (.int .i64 x0.Rows), .sl (x0.Classes.map (eSl (eI .i64)))]]) (r := .own (r3.map (eI .i64))) (r' := .own (r3.map (eI .i64))) (by kernel_rfl) (by kernel_rfl) (by kernel_rfl) (by kernel_rfl) (by kernel_rfl) (pass_snap (a := .opn (.tmp 18)) (d0 := .agg [.lit (.int .i64 x0.Rows), .sl (x0.Classes.map (eSl (eI .i64)))]) (d := .agg [.lit (.int .i64 x0.Rows), .sl (x0.Classes.map (eSl (eI .i64)))]) (by kernel_rfl) (by kernel_rfl) (by kernel_rfl) pass_nil) h4 (by rw [(flat_ow (e := (eI .i64)) (fun _ => rfl))]; rfl) (by kernel_rfl) ?_
    obtain ⟨r5, h6, h⟩ := h
    refine AtO.seg 1 (by kernel_rfl) ?_
    refine AtO.call0 (x := (.func 41)) (g := 41) (caps := []) (agl := [.opn (.tmp 20)]) (ds := [.agg [.lit (.int .i64 x1.Rows), .sl (x1.Classes.map (eSl (eI .i64)))]]) (r := .own (r5.map (eI .i64))) (r' := .own (r5.map (eI .i64))) (ms := [none]) (by kernel_rfl) (by kernel_rfl) (by kernel_rfl) (by kernel_rfl) (by kernel_rfl) (by kernel_rfl) (pass_snap (a := .opn (.tmp 20)) (d0 := .agg [.lit (.int .i64 x1.Rows), .sl (x1.Classes.map (eSl (eI .i64)))]) (d := .agg [.lit (.int .i64 x1.Rows), .sl (x1.Classes.map (eSl (eI .i64)))]) (by kernel_rfl) (by kernel_rfl) (by kernel_rfl) pass_nil) h6 (flat_ow (e := (eI .i64)) (fun _ => rfl)) (by kernel_rfl) ?_
    refine AtO.seg 2 (by kernel_rfl) ?_
    refine AtO.go (p' := [1, 1, 1, 0]) (F' := [(0, .agg [.lit (.int .i64 x0.Rows), .sl (x0.Classes.map (eSl (eI .i64)))]), (2, .box [.lit (.int .i64 x0.Rows), .sl (x0.Classes.map (eSl (eI .i64)))]), (4, .box [.lit (.int .i64 0), .own []]), (7, .own (r3.map (eI .i64))), (8, .own (r5.map (eI .i64)))]) 0 (by kernel_rfl) (by kernel_rfl) ?_
    refine Pt.reg (by kernel_rfl) ?_
    obtain ⟨h7, h⟩ := h
    refine AtO.seg 2 (by kernel_rfl) ?_
    refine AtO.val (by kernel_rfl) (val_make (t := 73) (x := (.tmp 23)) (y := (.tmp 23)) (q := .i64) (i := x0.Rows) (et := 74) (z := .agg [.lit (.int .i64 0), .lit (.int .i64 0)]) (e := enc_arr2_Int) (a := (⟨0, 0⟩ : (Int × Int))) (k := 16) (by kernel_rfl) (by kernel_rfl) (by kernel_rfl) (by kernel_rfl) (by kernel_rfl) (by kernel_rfl) (by kernel_rfl) (by kernel_rfl) (by kernel_rfl) (by kernel_rfl) h7.1 h7.2) ?_
    refine AtO.seg 1 (by kernel_rfl) ?_
    refine AtO.go (p' := [1, 1, 1, 1, 0, 0]) (F' := [(0, .agg [.lit (.int .i64 x0.Rows), .sl (x0.Classes.map (eSl (eI .i64)))]), (2, .box [.lit (.int .i64 x0.Rows), .sl (x0.Classes.map (eSl (eI .i64)))]), (4, .box [.lit (.int .i64 0), .own []]), (7, .own (r3.map (eI .i64))), (8, .own (r5.map (eI .i64))), (9, .own (((List.replicate x0.Rows.toNat (⟨0, 0⟩ : (Int × Int)))).map enc_arr2_Int))]) 0 (by kernel_rfl) (by kernel_rfl) ?_
    refine Pt.reg (by kernel_rfl) ?_
    refine AtO.seg 1 (by kernel_rfl) ?_
    refine AtO.val (by kernel_rfl) (val_len (x := (.tmp 25)) (t := 73) (et := 74) (d := .alias 9 []) (e := enc_arr2_Int) (l := (List.replicate x0.Rows.toNat (⟨0, 0⟩ : (Int × Int)))) (by kernel_rfl) (by kernel_rfl) (elemsOf_ow (by kernel_rfl)) (by kernel_rfl)) ?_
    refine AtO.seg 1 (by kernel_rfl) ?_
    refine AtO.go (p' := [1, 1, 1, 1, 0, 1, 0]) (F' := [(0, .agg [.lit (.int .i64 x0.Rows), .sl (x0.Classes.map (eSl (eI .i64)))]), (2, .box [.lit (.int .i64 x0.Rows), .sl (x0.Classes.map (eSl (eI .i64)))]), (4, .box [.lit (.int .i64 0), .own []]), (7, .own (r3.map (eI .i64))), (8, .own (r5.map (eI .i64))), (9, .own (((List.replicate x0.Rows.toNat (⟨0, 0⟩ : (Int × Int)))).map enc_arr2_Int)), (26, .lit (.int .i64 (((List.replicate x0.Rows.toNat (⟨0, 0⟩ : (Int × Int))).length : Int)))), (27, .lit (.int .i64 0))]) 0 (by kernel_rfl) (by kernel_rfl) ?_
    exact h
end partition_Product
end Go.Own

namespace Go.Own
theorem partition_groups_2_int_1.spec {c : List Int} : partition_groups_2_int_1.C c (decide ((c.length : Int) < 2)) := by
  obtain ⟨r, h1, h2⟩ := partition_groups_2_int_1.enter c (fun r => r = decide ((c.length : Int) < 2)) rfl
  rw [← h1]; exact h2
def keepC (c : List Int) : Bool := decide (2 ≤ c.length)
theorem keepC_iff {c : List Int} : decide ((c.length : Int) < 2) = !keepC c := by
  unfold keepC
  by_cases h : (c.length : Int) < 2
  · have : ¬ 2 ≤ c.length := by omega
    simp [h, this]
  · have : 2 ≤ c.length := by omega
    simp [h, this]
def firstOut : List (List Int) → Nat → Int
  | [], _ => -1
  | c :: cs, k => if keepC c then firstOut cs (k + 1) else (k : Int)
namespace slices_IndexFunc_ssint_sint_partition_groups_2_int_1
theorem loop {x0 : List (List Int)} {φ : Int → Prop} (hn : x0.length < Big) : ∀ (r : List (List Int)) (k : Nat), x0.drop k = r → φ (firstOut r k) → L1 x0 k φ
  | [], k, hd, h => by
    apply L1_step
    have := drop_ge hd
    rw [if_neg (by omega)]
    exact h
  | c :: r, k, hd, h => by
    apply L1_step
    have hk := drop_lt hd
    rw [if_pos (by omega)]
    refine ⟨c, lget_drop hd, _, partition_groups_2_int_1.spec, ?_⟩
    rw [keepC_iff]
    simp only [firstOut] at h
    split
    · rename_i h1
      have : keepC c = false := by simpa using h1
      rw [this] at h; exact h
    · rename_i h1
      have : keepC c = true := by simpa using h1
      rw [this] at h
      rw [wrap_succ (by unfold Big at hn; omega)]
      exact loop hn r (k + 1) (drop_next hd) h
theorem spec {x0 : List (List Int)} (hn : x0.length < Big) : C x0 (firstOut x0 0) := by
  obtain ⟨r, h1, h2⟩ := enter x0 (fun r => r = firstOut x0 0) (loop hn x0 0 rfl rfl)
  rw [← h1]; exact h2
end slices_IndexFunc_ssint_sint_partition_groups_2_int_1
theorem firstOut_spec : ∀ {l : List (List Int)} {k : Nat}, (firstOut l k = -1 ∧ ∀ c ∈ l, keepC c = true) ∨ ∃ n : Nat, firstOut l k = ((k + n : Nat) : Int) ∧ n < l.length ∧ (∀ c ∈ l.take n, keepC c = true) ∧ ∃ c, l[n]? = some c ∧ keepC c = false
  | [], _ => .inl ⟨rfl, by simp⟩
  | c :: l, k => by
    simp only [firstOut]
    cases hc : keepC c with
    | false => exact .inr ⟨0, by simp, by simp, by simp, c, rfl, hc⟩
    | true =>
      simp only [if_true]
      rcases firstOut_spec (l := l) (k := k + 1) with ⟨h1, h2⟩ | ⟨n, h1, h2, h3, h4⟩
      · exact .inl ⟨h1, by simpa [hc] using h2⟩
      · refine .inr ⟨n + 1, by rw [h1]; congr 1; omega, by simpa using h2, by simpa [hc] using h3, by simpa using h4⟩
namespace slices_DeleteFunc_ssint_sint_partition_groups_2_int_1
theorem loop {x0 : List (List Int)} {φ : List (List Int) × Bool → Prop} (hn : x0.length < Big) (hφ : ∀ b, φ (x0.filter keepC, b)) : ∀ (r : List (List Int)) (k j : Nat) (l : List (List Int)), x0.drop k = r → l.length = x0.length → l.drop k = x0.drop k → l.take j = (x0.take k).filter keepC → j ≤ k → k ≤ x0.length → L1 l j k φ
  | [], k, j, l, hd, hl, h1, h2, h3, h4 => by
    apply L1_step
    have hk := drop_ge hd
    rw [if_neg (by omega)]
    refine ⟨by omega, ⟨by omega, by omega⟩, by omega, by omega, by omega, by omega, ⟨by omega, by omega, by omega⟩, ?_⟩
    rw [Int.toNat_natCast, h2, List.take_of_length_le hk]
    exact hφ _
  | c :: r, k, j, l, hd, hl, h1, h2, h3, h4 => by
    apply L1_step
    have hk := drop_lt hd
    rw [if_pos (by omega)]
    have hlk : l.drop k = c :: r := by rw [h1, hd]
    refine ⟨c, lget_drop hlk, _, partition_groups_2_int_1.spec, ?_⟩
    rw [keepC_iff]
    have htk : x0.take (k + 1) = x0.take k ++ [c] := by rw [List.take_add_one, drop_get hd]; rfl
    split
    · rename_i hc
      have hc : keepC c = false := by simpa using hc
      apply L2_step
      rw [wrap_succ (by unfold Big at hn; omega)]
      refine loop hn hφ r (k + 1) j l (drop_next hd) hl ?_ ?_ (by omega) (by omega)
      · rw [drop_next hlk, drop_next hd]
      · rw [htk, List.filter_append, h2]; simp [hc]
    · rename_i hc
      have hc : keepC c = true := by simpa using hc
      obtain ⟨a, ha⟩ := lget_lt (l := l) (i := (j : Int)) (by omega) (by omega)
      refine ⟨a, ha, ?_⟩
      apply L2_step
      rw [wrap_succ (by unfold Big at hn; omega), wrap_succ (by unfold Big at hn; omega)]
      have hs : lset l (j : Int) c = l.set j c := by simp [lset]
      rw [hs]
      refine loop hn hφ r (k + 1) (j + 1) (l.set j c) (drop_next hd) (by simp [hl]) ?_ ?_ (by omega) (by omega)
      · rw [List.drop_set_of_lt (by omega), drop_next hlk, drop_next hd]
      · rw [htk, List.filter_append, ← h2, List.take_add_one]
        have e1 : (l.set j c)[j]? = some c := by rw [List.getElem?_set_self (by omega)]
        rw [e1, List.take_set_of_le (by omega)]
        simp [hc]
theorem spec {x0 : List (List Int)} (hn : x0.length < Big) : ∃ b, C x0 (x0.filter keepC, b) := by
  obtain ⟨r, h1, h2⟩ := enter x0 (fun r => r.1 = x0.filter keepC) (by
    refine ⟨_, slices_IndexFunc_ssint_sint_partition_groups_2_int_1.spec hn, ?_⟩
    rcases firstOut_spec (l := x0) (k := 0) with ⟨h1, h2⟩ | ⟨n, h1, h2, h3, c, h4, h5⟩
    · rw [if_pos h1]
      exact (List.filter_eq_self.2 h2).symm
    · rw [if_neg (by omega), h1, Nat.zero_add, wrap_succ (by unfold Big at hn; omega)]
      refine loop (φ := fun r => r.1 = x0.filter keepC) hn (fun b => rfl) _ (n + 1) n x0 rfl rfl rfl ?_ (by omega) (by omega)
      have htk : x0.take (n + 1) = x0.take n ++ [c] := by rw [List.take_add_one, h4]; rfl
      rw [htk, List.filter_append, List.filter_eq_self.2 h3]
      simp [h5])
  obtain ⟨l, b⟩ := r
  simp only at h1
  subst h1
  exact ⟨b, h2⟩
end slices_DeleteFunc_ssint_sint_partition_groups_2_int_1
def ixn {α : Type} [DecidableEq α] : List α → α → Nat
  | [], _ => 0
  | b :: l, a => if b = a then 0 else ixn l a + 1
theorem ixn_lt {α : Type} [DecidableEq α] {a : α} : ∀ {l : List α}, a ∈ l → ixn l a < l.length
  | [], h => by cases h
  | b :: l, h => by
    simp only [ixn, List.length_cons]
    split
    · omega
    · rename_i hb
      have := ixn_lt (l := l) (a := a) ((List.mem_cons.1 h).resolve_left fun h => hb h.symm)
      omega
theorem ixn_get {α : Type} [DecidableEq α] {a : α} : ∀ {l : List α}, a ∈ l → l[ixn l a]? = some a
  | [], h => by cases h
  | b :: l, h => by
    simp only [ixn]
    split
    · rename_i hb; subst hb; rfl
    · rename_i hb
      rw [List.getElem?_cons_succ]
      exact ixn_get ((List.mem_cons.1 h).resolve_left fun h => hb h.symm)
theorem ixn_in {α : Type} [DecidableEq α] {a : α} : ∀ {l m : List α}, a ∈ l → ixn (l ++ m) a = ixn l a
  | [], _, h => by cases h
  | b :: l, m, h => by
    simp only [List.cons_append, ixn]
    split
    · rfl
    · rename_i hb
      rw [ixn_in ((List.mem_cons.1 h).resolve_left fun h => hb h.symm)]
theorem idx_snoc {α : Type} [DecidableEq α] {a : α} : ∀ {l : List α}, a ∉ l → ixn (l ++ [a]) a = l.length
  | [], _ => by simp [ixn]
  | b :: l, h => by
    simp only [List.mem_cons, not_or] at h
    simp only [List.cons_append, ixn, if_neg (Ne.symm h.1), List.length_cons]
    rw [idx_snoc h.2]
theorem ixn_uniq {α : Type} [DecidableEq α] {a : α} : ∀ {l : List α} {q : Nat}, l.Nodup → l[q]? = some a → ixn l a = q
  | [], q, _, h => by simp at h
  | b :: l, 0, _, h => by
    simp only [List.getElem?_cons_zero, Option.some.injEq] at h
    simp [ixn, h]
  | b :: l, q + 1, hl, h => by
    simp only [List.getElem?_cons_succ] at h
    have hn := List.nodup_cons.1 hl
    have : b ≠ a := fun hb => hn.1 (hb ▸ List.mem_of_getElem? h)
    simp only [ixn, if_neg this, ixn_uniq hn.2 h]
def ixOf {α : Type} [DecidableEq α] (m : List (α × Int)) (ks : List α) : Prop := ∀ a, mget a m = if a ∈ ks then some ((ixn ks a : Nat) : Int) else none
theorem mget_mset {κ ν : Type} [DecidableEq κ] {k k' : κ} {v : ν} : ∀ {l : List (κ × ν)}, mget k' (mset k v l) = if k = k' then some v else mget k' l
  | [] => by
    by_cases h : k = k'
    · subst h; simp [mset, mget]
    · simp [mset, mget, h, Ne.symm h]
  | (a, b) :: l => by
    have ih := mget_mset (k := k) (k' := k') (v := v) (l := l)
    simp only [mset]
    by_cases h1 : k = a
    · subst h1
      simp only [if_true, mget]
      by_cases h2 : k' = k
      · subst h2; simp
      · simp [h2, Ne.symm h2]
    · simp only [if_neg h1, mget]
      by_cases h2 : k' = a
      · subst h2; simp [h1]
      · simp only [if_neg h2]; exact ih
namespace partition_groups_2_int
theorem loop {x0 : List (Int × Int)} {φ : List (List Int) → Prop} (hn : x0.length ≤ 10000) (hφ : φ (grpF x0)) : ∀ (r : List (Int × Int)) (k : Nat) (m : List ((Int × Int) × Int)), x0.drop k = r → ixOf m (fsts (x0.take k)) → L1 x0 m ((fsts (x0.take k)).map (cls (x0.take k))) k φ
  | [], k, m, hd, hm => by
    apply L1_step
    have hk := drop_ge hd
    rw [if_neg (by omega), List.take_of_length_le hk]
    have hlen : ((fsts x0).map (cls x0)).length < Big := by
      rw [List.length_map]
      have : ∀ l : List (Int × Int), (fsts l).length ≤ l.length := by
        intro l
        refine list_snoc_ind (p := fun l => (fsts l).length ≤ l.length) (by simp [fsts]) (fun l b ih => ?_) l
        rw [fsts_snoc]
        split
        · simp; omega
        · simp; omega
      have := this x0
      unfold Big; omega
    obtain ⟨b, hb⟩ := slices_DeleteFunc_ssint_sint_partition_groups_2_int_1.spec hlen
    exact ⟨_, hb, hφ⟩
  | a :: r, k, m, hd, hm => by
    apply L1_step
    have hk := drop_lt hd
    rw [if_pos (by omega)]
    refine ⟨a, lget_drop hd, ?_⟩
    have htk : x0.take (k + 1) = x0.take k ++ [a] := by rw [List.take_add_one, drop_get hd]; rfl
    have hlen : (x0.take k).length = k := by rw [List.length_take]; omega
    have hle : (fsts (x0.take k)).length ≤ 10000 := by
      have : ∀ l : List (Int × Int), (fsts l).length ≤ l.length := by
        intro l
        refine list_snoc_ind (p := fun l => (fsts l).length ≤ l.length) (by simp [fsts]) (fun l b ih => ?_) l
        rw [fsts_snoc]
        split
        · simp; omega
        · simp; omega
      have := this (x0.take k)
      omega
    have hcl : ∀ b, (cls (x0.take k) b).length ≤ 10000 := fun b => by
      unfold cls
      rw [List.length_map]
      exact Nat.le_trans (List.length_filter_le _ _) (by simp; omega)
    by_cases ha : a ∈ fsts (x0.take k)
    · have hg : mget a m = some ((ixn (fsts (x0.take k)) a : Nat) : Int) := by rw [hm a, if_pos ha]
      rw [if_pos (by simp [mhas, hg])]
      apply L2_step
      have hi : ixn (fsts (x0.take k)) a < (fsts (x0.take k)).length := ixn_lt ha
      have hgd : mgetD a m 0 = ((ixn (fsts (x0.take k)) a : Nat) : Int) := by simp [mgetD, hg]
      rw [hgd]
      refine ⟨cls (x0.take k) a, ?_, by have := hcl a; omega, ?_⟩
      · rw [lget_nat, List.getElem?_map, ixn_get ha]; rfl
      · rw [wrap_succ (by omega)]
        have ih := loop hn hφ r (k + 1) m (drop_next hd) (by rw [htk, fsts_snoc, if_pos ha]; exact hm)
        rw [htk, fsts_snoc, if_pos ha] at ih
        have e : (fsts (x0.take k)).map (cls (x0.take k ++ [a])) = lset ((fsts (x0.take k)).map (cls (x0.take k))) ((ixn (fsts (x0.take k)) a : Nat) : Int) (cls (x0.take k) a ++ [(k : Int)]) := by
          unfold lset
          rw [Int.toNat_natCast]
          apply List.ext_getElem?
          intro q
          rw [List.getElem?_map, List.getElem?_set, List.getElem?_map, List.length_map]
          by_cases hq : ixn (fsts (x0.take k)) a = q
          · subst hq
            rw [if_pos rfl, if_pos hi, ixn_get ha]
            simp [cls_snoc, hlen]
          · rw [if_neg hq]
            cases hv : (fsts (x0.take k))[q]? with
            | none => rfl
            | some b =>
              simp only [Option.map_some, Option.some.injEq]
              rw [cls_snoc, if_neg]
              rintro rfl
              exact hq (ixn_uniq fsts_nodup hv)
        rw [e] at ih
        exact ih
    · have hg : mget a m = none := by rw [hm a, if_neg ha]
      rw [if_neg (by simp [mhas, hg])]
      have hal : a ∉ x0.take k := fun h => ha (mem_fsts.2 h)
      refine ⟨by rw [List.length_map]; omega, ?_⟩
      apply L2_step
      refine ⟨[], ?_, by simp, ?_⟩
      · rw [lget_nat, List.getElem?_append_right (Nat.le_refl _)]; simp
      · rw [wrap_succ (by omega), List.length_map]
        have ih := loop hn hφ r (k + 1) (mset a ((fsts (x0.take k)).length : Int) m) (drop_next hd) (by
          rw [htk, fsts_snoc, if_neg ha]
          intro b
          rw [mget_mset]
          by_cases hab : a = b
          · subst hab
            rw [if_pos rfl, if_pos (by simp), idx_snoc ha]
          · rw [if_neg hab, hm b]
            have : b ∈ fsts (x0.take k) ++ [a] ↔ b ∈ fsts (x0.take k) := by simp [Ne.symm hab]
            by_cases hb : b ∈ fsts (x0.take k)
            · rw [if_pos hb, if_pos (this.2 hb), ixn_in hb]
            · rw [if_neg hb, if_neg (fun h => hb (this.1 h))])
        rw [htk, fsts_snoc, if_neg ha] at ih
        have e : (fsts (x0.take k) ++ [a]).map (cls (x0.take k ++ [a])) = lset ((fsts (x0.take k)).map (cls (x0.take k)) ++ [[]]) ((fsts (x0.take k)).length : Int) ([] ++ [(k : Int)]) := by
          unfold lset
          rw [Int.toNat_natCast, List.set_append_right _ _ (by simp), List.length_map, Nat.sub_self, List.set_cons_zero, List.map_append]
          congr 1
          · refine List.map_congr_left fun b hb => ?_
            rw [cls_snoc, if_neg]
            rintro rfl; exact ha hb
          · simp [cls_snoc, cls_out hal, hlen]
        rw [e] at ih
        exact ih
theorem spec {x0 : List (Int × Int)} (hn : x0.length ≤ 10000) : C x0 (grpF x0) := by
  obtain ⟨r, h1, h2⟩ := enter x0 (fun r => r = grpF x0) (by
    have := loop (φ := fun r => r = grpF x0) hn rfl x0 0 [] rfl (by intro a; simp [mget, fsts])
    simpa [fsts] using this)
  rw [← h1]; exact h2
end partition_groups_2_int
def zipL (l m : List Int) : List (Int × Int) := l.zip m
def prodF (a b : api_Partition) : api_Partition × Int := if bothF a b = 0 then (⟨a.Rows, grpF (zipL (labN a) (labN b))⟩, 0) else (⟨0, []⟩, bothF a b)
namespace partition_Product
theorem loop {x0 : api_Partition} {l m : List Int} {φ : api_Partition × Int → Prop} (h0 : 0 ≤ x0.Rows) (h1 : x0.Rows ≤ 1000) (hl : l.length = x0.Rows.toNat) (hm : m.length = x0.Rows.toNat) (hφ : φ (⟨x0.Rows, grpF (zipL l m)⟩, 0)) : ∀ (n k : Nat), k + n = x0.Rows.toNat → L1 x0 l m ((zipL l m).take k ++ List.replicate n (0, 0)) k φ
  | 0, k, hk => by
    apply L1_step
    rw [if_neg (by simp; omega)]
    have hz : (zipL l m).length = x0.Rows.toNat := by simp [zipL, hl, hm]
    rw [List.take_of_length_le (by omega), List.replicate_zero, List.append_nil]
    exact ⟨_, partition_groups_2_int.spec (by omega), hφ⟩
  | n + 1, k, hk => by
    apply L1_step
    have hz : (zipL l m).length = x0.Rows.toNat := by simp [zipL, hl, hm]
    rw [if_pos (by simp; omega)]
    have hlk := List.getElem?_eq_getElem (l := l) (i := k) (by omega)
    have hmk := List.getElem?_eq_getElem (l := m) (i := k) (by omega)
    have htl : ((zipL l m).take k).length = k := by rw [List.length_take]; omega
    refine ⟨l[k], by rw [lget_nat]; exact hlk, m[k], by rw [lget_nat]; exact hmk, (0, 0), ?_, ?_⟩
    · rw [lget_nat, List.getElem?_append_right (by omega), htl, Nat.sub_self, List.replicate_succ]; rfl
    · rw [wrap_succ (by omega)]
      have : lset ((zipL l m).take k ++ List.replicate (n + 1) (0, 0)) (k : Int) (l[k], m[k]) = (zipL l m).take (k + 1) ++ List.replicate n (0, 0) := by
        unfold lset
        rw [Int.toNat_natCast, List.set_append_right _ _ (by omega), htl, Nat.sub_self, List.replicate_succ, List.set_cons_zero, List.take_add_one]
        have : (zipL l m)[k]? = some (l[k], m[k]) := by
          unfold zipL
          rw [List.getElem?_zip_eq_some]
          exact ⟨hlk, hmk⟩
        rw [this]
        simp
      rw [this]
      exact loop h0 h1 hl hm hφ n (k + 1) (by omega)
theorem spec {a b : api_Partition} (ha : Small a) (hb : Small b) : C a b (prodF a b) := by
  obtain ⟨r, h1, h2⟩ := enter a b (fun r => r = prodF a b) (by
    refine ⟨_, partition_both.spec ha hb, ?_⟩
    unfold prodF
    split
    · rename_i h
      have h' := h
      unfold bothF at h
      split at h
      · rename_i va
        split at h
        · rename_i vb
          split at h
          · rename_i hr
            obtain ⟨v1, v2, v3⟩ := valid_iff.1 va
            refine ⟨_, partition_labels.spec ha va, _, partition_labels.spec hb vb, by omega, ?_⟩
            have := loop (φ := fun r => r = (⟨a.Rows, grpF (zipL (labN a) (labN b))⟩, 0)) v1 v2 labN_len (by rw [labN_len, hr]) rfl a.Rows.toNat 0 (by omega)
            simpa using this
          · omega
        · omega
      · omega
    · rfl)
  rw [← h1]; exact h2
end partition_Product
end Go.Own

namespace Go.Own
section
variable {α β : Type} [DecidableEq α] [DecidableEq β]
structure Alike (l : List α) (m : List β) : Prop where
  len : l.length = m.length
  iff : ∀ i j : Nat, i < l.length → j < l.length → (l[i]? = l[j]? ↔ m[i]? = m[j]?)
theorem cls_alike {l : List α} {m : List β} (h : Alike l m) {k : Nat} {a : α} {b : β} (ha : l[k]? = some a) (hb : m[k]? = some b) : cls l a = cls m b := by
  unfold cls
  rw [h.len]
  congr 1
  refine List.filter_congr fun i hi => ?_
  have hk := (List.getElem?_eq_some_iff.1 ha).1
  have := h.iff i k (by rw [h.len]; simpa using hi) hk
  rw [ha, hb] at this
  rw [decide_eq_decide]
  exact this
theorem mem_take_iff {l : List α} {k : Nat} {a : α} : a ∈ l.take k ↔ ∃ j, j < k ∧ l[j]? = some a := by
  rw [List.mem_iff_getElem?]
  constructor
  · rintro ⟨j, hj⟩
    rw [List.getElem?_take] at hj
    split at hj
    · rename_i h; exact ⟨j, h, hj⟩
    · cases hj
  · rintro ⟨j, h1, h2⟩
    exact ⟨j, by rw [List.getElem?_take_of_lt h1]; exact h2⟩
theorem take_succ_get {l : List α} {k : Nat} {a : α} (h : l[k]? = some a) : l.take (k + 1) = l.take k ++ [a] := by rw [List.take_add_one, h]; rfl
theorem map_alike {l : List α} {m : List β} (h : Alike l m) : ∀ k, k ≤ l.length → (fsts (l.take k)).map (cls l) = (fsts (m.take k)).map (cls m)
  | 0, _ => by simp [fsts]
  | k + 1, hk => by
    have ih := map_alike h k (by omega)
    have hl := List.getElem?_eq_getElem (l := l) (i := k) (by omega)
    have hm := List.getElem?_eq_getElem (l := m) (i := k) (by rw [← h.len]; omega)
    rw [take_succ_get hl, take_succ_get hm, fsts_snoc, fsts_snoc]
    have e : l[k] ∈ fsts (l.take k) ↔ m[k]'(by rw [← h.len]; omega) ∈ fsts (m.take k) := by
      rw [mem_fsts, mem_fsts, mem_take_iff, mem_take_iff]
      constructor
      · rintro ⟨j, h1, h2⟩
        refine ⟨j, h1, ?_⟩
        rw [← hm, ← h.iff j k (by omega) (by omega), h2, hl]
      · rintro ⟨j, h1, h2⟩
        refine ⟨j, h1, ?_⟩
        rw [← hl, h.iff j k (by omega) (by omega), h2, hm]
    by_cases hin : l[k] ∈ fsts (l.take k)
    · rw [if_pos hin, if_pos (e.1 hin)]; exact ih
    · rw [if_neg hin, if_neg (fun hh => hin (e.2 hh)), List.map_append, List.map_append, ih]
      simp only [List.map_cons, List.map_nil, cls_alike h hl hm]
theorem grpF_alike {l : List α} {m : List β} (h : Alike l m) : grpF l = grpF m := by
  have := map_alike h l.length (Nat.le_refl _)
  rw [List.take_length, h.len, List.take_length] at this
  unfold grpF
  rw [this]
theorem cls_sorted {l : List α} {a : α} : (cls l a).Pairwise (· < ·) := by
  unfold cls
  rw [List.pairwise_map]
  refine List.Pairwise.imp ?_ (List.pairwise_lt_range.filter _)
  intro i j h; omega
theorem head_le {c : List Int} (h : c.Pairwise (· < ·)) {i : Int} (hi : i ∈ c) : c.headD 0 ≤ i := by
  match c, h, hi with
  | a :: t, h, hi =>
    simp only [List.headD_cons]
    rcases List.mem_cons.1 hi with rfl | hi
    · omega
    · have := (List.pairwise_cons.1 h).1 i hi; omega
theorem headD_in {c : List Int} (h : c ≠ []) : c.headD 0 ∈ c := by
  match c, h with
  | a :: t, _ => simp
theorem cls_ne {l : List α} {a : α} (h : a ∈ l) : cls l a ≠ [] := by
  obtain ⟨k, hk⟩ := List.mem_iff_getElem?.1 h
  intro hn
  have : ((k : Nat) : Int) ∈ cls l a := mem_cls.2 (by rw [lget_nat]; exact hk)
  rw [hn] at this; cases this
theorem grp_pairs {l : List α} : ∀ k, k ≤ l.length → ((fsts (l.take k)).map (cls l)).Pairwise (fun c d => c.headD 0 < d.headD 0 ∧ ∀ i ∈ c, i ∉ d) ∧ ∀ a ∈ fsts (l.take k), (cls l a).headD 0 < (k : Int)
  | 0, _ => by simp [fsts]
  | k + 1, hk => by
    obtain ⟨i1, i2⟩ := grp_pairs (l := l) k (by omega)
    obtain ⟨x, hl⟩ : ∃ x, l[k]? = some x := ⟨_, List.getElem?_eq_getElem (by omega)⟩
    rw [take_succ_get hl, fsts_snoc]
    split
    · exact ⟨i1, fun a ha => by have := i2 a ha; omega⟩
    · rename_i hin
      have hne := cls_ne (List.mem_of_getElem? hl)
      have hkm : ((k : Nat) : Int) ∈ cls l x := mem_cls.2 (by rw [lget_nat]; exact hl)
      have hhead : (cls l x).headD 0 = (k : Int) := by
        have h1 := head_le cls_sorted hkm
        have h2 := mem_cls.1 (headD_in hne)
        obtain ⟨h3, h4⟩ := lget_some h2
        rcases Int.lt_or_le ((cls l x).headD 0) (k : Int) with h5 | h5
        · exfalso
          apply hin
          rw [mem_fsts, mem_take_iff]
          exact ⟨_, by omega, h4⟩
        · omega
      refine ⟨?_, ?_⟩
      · rw [List.map_append, List.pairwise_append]
        refine ⟨i1, by simp, fun c hc d hd => ?_⟩
        simp only [List.map_cons, List.map_nil, List.mem_singleton] at hd
        subst hd
        obtain ⟨b, hb, rfl⟩ := List.mem_map.1 hc
        refine ⟨by rw [hhead]; exact i2 b hb, fun i hi hi2 => ?_⟩
        have e := (mem_cls.1 hi).symm.trans (mem_cls.1 hi2)
        rw [Option.some.inj e] at hb
        exact hin hb
      · intro a ha
        rcases List.mem_append.1 ha with ha | ha
        · have := i2 a ha; omega
        · simp only [List.mem_singleton] at ha
          subst ha
          rw [hhead]; omega
def part (l : List α) : api_Partition := ⟨l.length, grpF l⟩
theorem mem_grpF {l : List α} {c : List Int} : c ∈ grpF l ↔ ∃ a ∈ l, c = cls l a ∧ 2 ≤ c.length := by
  unfold grpF
  simp only [List.mem_filter, List.mem_map, decide_eq_true_eq]
  constructor
  · rintro ⟨⟨a, h1, rfl⟩, h2⟩; exact ⟨a, mem_fsts.1 h1, rfl, h2⟩
  · rintro ⟨a, h1, rfl, h2⟩; exact ⟨⟨a, mem_fsts.2 h1, rfl⟩, h2⟩
theorem part_CP {l : List α} : CP (l.length : Int) (grpF l) := by
  have hp := (grp_pairs (l := l) l.length (Nat.le_refl _)).1
  rw [List.take_length] at hp
  have hp' : (grpF l).Pairwise (fun c d => c.headD 0 < d.headD 0 ∧ ∀ i ∈ c, i ∉ d) := hp.filter _
  refine ⟨fun c hc => ?_, fun c hc => ?_, fun c hc i hi => ?_, hp'.imp fun h => h.1, hp'.imp fun h => h.2⟩
  · obtain ⟨a, _, _, h⟩ := mem_grpF.1 hc; exact h
  · obtain ⟨a, _, rfl, _⟩ := mem_grpF.1 hc; exact cls_sorted
  · obtain ⟨a, _, rfl, _⟩ := mem_grpF.1 hc
    obtain ⟨h1, h2⟩ := lget_some (mem_cls.1 hi)
    have := (List.getElem?_eq_some_iff.1 h2).1
    omega
theorem part_valid {l : List α} (h : l.length ≤ 1000) : validF (part l) = true := valid_iff.2 ⟨by simp [part], by simp only [part]; omega, part_CP⟩
theorem part_same {l : List α} {i j : Int} (hi : 0 ≤ i ∧ i < l.length) (hj : 0 ≤ j ∧ j < l.length) : Same (part l) i j ↔ lget l i = lget l j := by
  constructor
  · rintro (rfl | ⟨c, hc, h1, h2⟩)
    · rfl
    · obtain ⟨a, _, rfl, _⟩ := mem_grpF.1 hc
      rw [mem_cls.1 h1, mem_cls.1 h2]
  · intro h
    by_cases hij : i = j
    · exact .inl hij
    · obtain ⟨a, ha⟩ := lget_lt (l := l) hi.1 hi.2
      have h1 : i ∈ cls l a := mem_cls.2 ha
      have h2 : j ∈ cls l a := mem_cls.2 (h ▸ ha)
      refine .inr ⟨cls l a, mem_grpF.2 ⟨a, ?_, rfl, ?_⟩, h1, h2⟩
      · exact List.mem_of_getElem? (lget_some ha).2
      · match hc : cls l a, h1, h2 with
        | [x], h1, h2 => simp at h1 h2; exact absurd (h1.trans h2.symm) hij
        | _ :: _ :: _, _, _ => simp
theorem part_small {l : List α} (h : l.length ≤ 1000) : Small (part l) := by
  obtain ⟨h1, h2⟩ := sizes (part_valid h)
  exact ⟨by unfold Big; omega, fun c hc => by have := h2 c hc; unfold Big; omega⟩
theorem prod_part {l : List α} {m : List β} (hl : l.length ≤ 1000) (hm : m.length = l.length) : prodF (part l) (part m) = (part (l.zip m), 0) := by
  have hb : bothF (part l) (part m) = 0 := by
    simp [bothF, part_valid hl, part_valid (l := m) (by omega)]
    simp [part, hm]
  unfold prodF
  rw [if_pos hb]
  have ha : Alike (zipL (labN (part l)) (labN (part m))) (l.zip m) := by
    have n1 : (labN (part l)).length = l.length := by rw [labN_len]; simp [part]
    have n2 : (labN (part m)).length = l.length := by rw [labN_len]; simp [part, hm]
    refine ⟨by simp [zipL, n1, n2, hm], fun i j hi hj => ?_⟩
    have hi : i < l.length := by simp only [zipL, List.length_zip, n1, n2] at hi; omega
    have hj : j < l.length := by simp only [zipL, List.length_zip, n1, n2] at hj; omega
    have key : ∀ {γ δ : Type} {u : List γ} {v : List δ}, u.length = l.length → v.length = l.length → ((u.zip v)[i]? = (u.zip v)[j]? ↔ u[i]? = u[j]? ∧ v[i]? = v[j]?) := by
      intro γ δ u v hu hv
      rw [List.getElem?_eq_getElem (by simp; omega), List.getElem?_eq_getElem (by simp; omega), List.getElem?_eq_getElem (l := u) (by omega), List.getElem?_eq_getElem (l := u) (i := j) (by omega), List.getElem?_eq_getElem (l := v) (by omega), List.getElem?_eq_getElem (l := v) (i := j) (by omega)]
      simp
    unfold zipL
    rw [key n1 n2, key rfl hm]
    have s1 := labN_same (part_valid hl) (i := (i : Int)) (j := (j : Int)) (by simp [part]; omega) (by simp [part]; omega)
    have s2 := labN_same (part_valid (l := m) (by omega)) (i := (i : Int)) (j := (j : Int)) (by simp [part]; omega) (by simp [part]; omega)
    rw [part_same (by omega) (by omega)] at s1
    rw [part_same (by omega) (by omega)] at s2
    simp only [lget_nat] at s1 s2
    rw [s1, s2]
  rw [grpF_alike ha]
  simp [part, hm]
end
end Go.Own

namespace Go.Own
open Go.Proofs D
set_option maxRecDepth 100000
set_option maxHeartbeats 4000000
namespace drosslaw08_awake
noncomputable def B : Code := (Tryd.f11.body).getD .skip
def W : List Nat := [0, 1, 2, 3, 4, 5, 6, 7, 8]
def res (r : Bool) : D × List D := (.lit (.bool r), [])
def C  (r : Bool) : Prop := Ret env 11 [] (res r).1 (res r).2
end drosslaw08_awake
end Go.Own

namespace Go.Own
set_option maxRecDepth 1000000
theorem drosslaw08_awake.run : callN env 400 11 [] = some (.lit (.bool true), []) := by kernel_rfl
theorem drosslaw08_awake.spec : drosslaw08_awake.C true := Ret.of drosslaw08_awake.run
end Go.Own

namespace Go.Own
open Go.Proofs D
set_option maxRecDepth 100000
set_option maxHeartbeats 4000000
namespace drosslaw08_PartitionRemoval
noncomputable def B : Code := (Tryd.f7.body).getD .skip
def W : List Nat := [0, 1, 2, 3, 4, 5, 6, 7, 8, 20]
def res (r : Bool) : D × List D := (.lit (.bool r), [])
def C (x0 : api_Partition) (x1 : api_Partition) (r : Bool) : Prop := Ret env 7 [.agg [.lit (.int .i64 x0.Rows), .sl (x0.Classes.map (eSl (eI .i64)))], .agg [.lit (.int .i64 x1.Rows), .sl (x1.Classes.map (eSl (eI .i64)))]] (res r).1 (res r).2
def L1  (φ : Bool → Prop) : Prop := Pt env 7 W B [1, 0, 1, 0, 0] [] (Lv env 7 Tryd.f7 2 res φ)
theorem L1_step  (φ : Bool → Prop) (h :
    ∃ r23 : Bool, drosslaw08_awake.C  r23 ∧
    φ r23) : L1  φ := by
  unfold L1
  refine Pt.reg (by kernel_rfl) ?_
  obtain ⟨r23, h24, h⟩ := h
  refine AtO.call0 (x := (.func 11)) (g := 11) (caps := []) (agl := []) (ds := []) (r := .lit (.bool r23)) (r' := .lit (.bool r23)) (ms := []) (by kernel_rfl) (by kernel_rfl) (by kernel_rfl) (by kernel_rfl) (by kernel_rfl) (by kernel_rfl) pass_nil h24 rfl (by kernel_rfl) ?_
  refine AtO.seg 1 (by kernel_rfl) ?_
  refine AtO.go (p' := [1, 0, 1, 0, 1]) (F' := [(4, .lit (.bool r23))]) 0 (by kernel_rfl) (by kernel_rfl) ?_
  exact Pt.ret r23 (by kernel_rfl) (by kernel_rfl) h
theorem enter (x0 : api_Partition) (x1 : api_Partition) (φ : Bool → Prop) (h :
    ∃ r13 : Bool, drosslaw08_awake.C  r13 ∧
    (if r13 = true then
      ∃ r15 : Bool, drossref08_Few.C x0 r15 ∧
      (if r15 = true then
        ∃ r17 : Bool, drossref08_Few.C x1 r17 ∧
        (if r17 = true then
          ∃ r19 : Int × Int, partition_Removal.C x0 x1 r19 ∧
          ∃ r21 : Int × Int, drossref08_Removal.C x0 x1 r21 ∧
          (if r19.1 = r21.1 then
            φ ((r19.2 == r21.2))
          else
            φ false)
        else
          drosslaw08_PartitionRemoval.L1  φ)
      else
        drosslaw08_PartitionRemoval.L1  φ)
    else
      drosslaw08_PartitionRemoval.L1  φ)) : ∃ r, φ r ∧ C x0 x1 r := by
  refine Ret.of_at (E := env) (f := 7) (fd := Tryd.f7) (body := B) (p := [0]) (V := W) (F := [(0, .agg [.lit (.int .i64 x0.Rows), .sl (x0.Classes.map (eSl (eI .i64)))]), (1, .agg [.lit (.int .i64 x1.Rows), .sl (x1.Classes.map (eSl (eI .i64)))]), (2, .undef), (3, .undef), (4, .undef), (5, .undef), (6, .undef), (7, .undef), (8, .undef), (20, .undef)]) (res := res) (φ := φ) (ds := [.agg [.lit (.int .i64 x0.Rows), .sl (x0.Classes.map (eSl (eI .i64)))], .agg [.lit (.int .i64 x1.Rows), .sl (x1.Classes.map (eSl (eI .i64)))]]) (by kernel_rfl) (by kernel_rfl) (by kernel_rfl) ⟨Nat.le_of_ble_eq_true (by kernel_rfl), Nat.le_of_ble_eq_true (by kernel_rfl)⟩ (by kernel_rfl) (by kernel_rfl) (by kernel_rfl) ?_
  refine Pt.reg (by kernel_rfl) ?_
  refine AtO.seg 3 (by kernel_rfl) ?_
  refine AtO.go (p' := [1, 0, 0]) (F' := [(0, .agg [.lit (.int .i64 x0.Rows), .sl (x0.Classes.map (eSl (eI .i64)))]), (1, .agg [.lit (.int .i64 x1.Rows), .sl (x1.Classes.map (eSl (eI .i64)))]), (2, .box [.lit (.int .i64 x0.Rows), .sl (x0.Classes.map (eSl (eI .i64)))]), (3, .box [.lit (.int .i64 x1.Rows), .sl (x1.Classes.map (eSl (eI .i64)))])]) 0 (by kernel_rfl) (by kernel_rfl) ?_
  refine Pt.reg (by kernel_rfl) ?_
  obtain ⟨r13, h14, h⟩ := h
  refine AtO.call0 (x := (.func 11)) (g := 11) (caps := []) (agl := []) (ds := []) (r := .lit (.bool r13)) (r' := .lit (.bool r13)) (ms := []) (by kernel_rfl) (by kernel_rfl) (by kernel_rfl) (by kernel_rfl) (by kernel_rfl) (by kernel_rfl) pass_nil h14 rfl (by kernel_rfl) ?_
  refine AtO.putb (fun hc => ?_) (fun hc => ?_)
  · have h := ite_t h (id hc)
    obtain ⟨r15, h16, h⟩ := h
    refine AtO.seg 3 (by kernel_rfl) ?_
    refine AtO.call0 (x := (.func 22)) (g := 22) (caps := []) (agl := [.opn (.tmp 12)]) (ds := [.agg [.lit (.int .i64 x0.Rows), .sl (x0.Classes.map (eSl (eI .i64)))]]) (r := .lit (.bool r15)) (r' := .lit (.bool r15)) (ms := [none]) (by kernel_rfl) (by kernel_rfl) (by kernel_rfl) (by kernel_rfl) (by kernel_rfl) (by kernel_rfl) (pass_snap (a := .opn (.tmp 12)) (d0 := .agg [.lit (.int .i64 x0.Rows), .sl (x0.Classes.map (eSl (eI .i64)))]) (d := .agg [.lit (.int .i64 x0.Rows), .sl (x0.Classes.map (eSl (eI .i64)))]) (by kernel_rfl) (by kernel_rfl) (by kernel_rfl) pass_nil) h16 rfl (by kernel_rfl) ?_
    refine AtO.putb (fun hc => ?_) (fun hc => ?_)
    · have h := ite_t h (id hc)
      obtain ⟨r17, h18, h⟩ := h
      refine AtO.seg 4 (by kernel_rfl) ?_
      refine AtO.call0 (x := (.func 22)) (g := 22) (caps := []) (agl := [.opn (.tmp 17)]) (ds := [.agg [.lit (.int .i64 x1.Rows), .sl (x1.Classes.map (eSl (eI .i64)))]]) (r := .lit (.bool r17)) (r' := .lit (.bool r17)) (ms := [none]) (by kernel_rfl) (by kernel_rfl) (by kernel_rfl) (by kernel_rfl) (by kernel_rfl) (by kernel_rfl) (pass_snap (a := .opn (.tmp 17)) (d0 := .agg [.lit (.int .i64 x1.Rows), .sl (x1.Classes.map (eSl (eI .i64)))]) (d := .agg [.lit (.int .i64 x1.Rows), .sl (x1.Classes.map (eSl (eI .i64)))]) (by kernel_rfl) (by kernel_rfl) (by kernel_rfl) pass_nil) h18 rfl (by kernel_rfl) ?_
      refine AtO.putb (fun hc => ?_) (fun hc => ?_)
      · have h := ite_t h (id hc)
        refine AtO.seg 2 (by kernel_rfl) ?_
        refine AtO.go (p' := [1, 1, 0]) (F' := [(0, .agg [.lit (.int .i64 x0.Rows), .sl (x0.Classes.map (eSl (eI .i64)))]), (1, .agg [.lit (.int .i64 x1.Rows), .sl (x1.Classes.map (eSl (eI .i64)))]), (2, .box [.lit (.int .i64 x0.Rows), .sl (x0.Classes.map (eSl (eI .i64)))]), (3, .box [.lit (.int .i64 x1.Rows), .sl (x1.Classes.map (eSl (eI .i64)))])]) 2 (by kernel_rfl) (by kernel_rfl) ?_
        refine Pt.reg (by kernel_rfl) ?_
        obtain ⟨r19, h20, h⟩ := h
        refine AtO.seg 2 (by kernel_rfl) ?_
        refine AtO.call0 (x := (.func 23)) (g := 23) (caps := []) (agl := [.opn (.tmp 23), .opn (.tmp 24)]) (ds := [.agg [.lit (.int .i64 x0.Rows), .sl (x0.Classes.map (eSl (eI .i64)))], .agg [.lit (.int .i64 x1.Rows), .sl (x1.Classes.map (eSl (eI .i64)))]]) (r := .tup [.lit (.int .i64 r19.1), .lit (.int .i64 r19.2)]) (r' := .tup [.lit (.int .i64 r19.1), .lit (.int .i64 r19.2)]) (ms := [none, none]) (by kernel_rfl) (by kernel_rfl) (by kernel_rfl) (by kernel_rfl) (by kernel_rfl) (by kernel_rfl) (pass_snap (a := .opn (.tmp 23)) (d0 := .agg [.lit (.int .i64 x0.Rows), .sl (x0.Classes.map (eSl (eI .i64)))]) (d := .agg [.lit (.int .i64 x0.Rows), .sl (x0.Classes.map (eSl (eI .i64)))]) (by kernel_rfl) (by kernel_rfl) (by kernel_rfl) (pass_snap (a := .opn (.tmp 24)) (d0 := .agg [.lit (.int .i64 x1.Rows), .sl (x1.Classes.map (eSl (eI .i64)))]) (d := .agg [.lit (.int .i64 x1.Rows), .sl (x1.Classes.map (eSl (eI .i64)))]) (by kernel_rfl) (by kernel_rfl) (by kernel_rfl) pass_nil)) h20 (flat_tup (flts_cons rfl (flts_cons rfl flts_nil))) (by kernel_rfl) ?_
        refine AtO.seg 5 (by kernel_rfl) ?_
        refine AtO.go (p' := [1, 1, 1, 0]) (F' := [(0, .agg [.lit (.int .i64 x0.Rows), .sl (x0.Classes.map (eSl (eI .i64)))]), (1, .agg [.lit (.int .i64 x1.Rows), .sl (x1.Classes.map (eSl (eI .i64)))]), (2, .box [.lit (.int .i64 x0.Rows), .sl (x0.Classes.map (eSl (eI .i64)))]), (3, .box [.lit (.int .i64 x1.Rows), .sl (x1.Classes.map (eSl (eI .i64)))]), (5, .lit (.int .i64 r19.1)), (6, .lit (.int .i64 r19.2))]) 0 (by kernel_rfl) (by kernel_rfl) ?_
        refine Pt.reg (by kernel_rfl) ?_
        obtain ⟨r21, h22, h⟩ := h
        refine AtO.seg 2 (by kernel_rfl) ?_
        refine AtO.call0 (x := (.func 24)) (g := 24) (caps := []) (agl := [.opn (.tmp 29), .opn (.tmp 30)]) (ds := [.agg [.lit (.int .i64 x0.Rows), .sl (x0.Classes.map (eSl (eI .i64)))], .agg [.lit (.int .i64 x1.Rows), .sl (x1.Classes.map (eSl (eI .i64)))]]) (r := .tup [.lit (.int .i64 r21.1), .lit (.int .i64 r21.2)]) (r' := .tup [.lit (.int .i64 r21.1), .lit (.int .i64 r21.2)]) (ms := [none, none]) (by kernel_rfl) (by kernel_rfl) (by kernel_rfl) (by kernel_rfl) (by kernel_rfl) (by kernel_rfl) (pass_snap (a := .opn (.tmp 29)) (d0 := .agg [.lit (.int .i64 x0.Rows), .sl (x0.Classes.map (eSl (eI .i64)))]) (d := .agg [.lit (.int .i64 x0.Rows), .sl (x0.Classes.map (eSl (eI .i64)))]) (by kernel_rfl) (by kernel_rfl) (by kernel_rfl) (pass_snap (a := .opn (.tmp 30)) (d0 := .agg [.lit (.int .i64 x1.Rows), .sl (x1.Classes.map (eSl (eI .i64)))]) (d := .agg [.lit (.int .i64 x1.Rows), .sl (x1.Classes.map (eSl (eI .i64)))]) (by kernel_rfl) (by kernel_rfl) (by kernel_rfl) pass_nil)) h22 (flat_tup (flts_cons rfl (flts_cons rfl flts_nil))) (by kernel_rfl) ?_
        refine AtO.seg 5 (by kernel_rfl) ?_
        refine AtO.go (p' := [1, 1, 1, 1, 0]) (F' := [(5, .lit (.int .i64 r19.1)), (6, .lit (.int .i64 r19.2)), (7, .lit (.int .i64 r21.1)), (8, .lit (.int .i64 r21.2))]) 0 (by kernel_rfl) (by kernel_rfl) ?_
        refine Pt.reg (by kernel_rfl) ?_
        refine AtO.seg 2 (by kernel_rfl) ?_
        refine AtO.bool (b := (r19.1 == r21.1)) (by kernel_rfl) (by kernel_rfl) (fun hc => ?_) (fun hc => ?_)
        · have h := ite_t h (beq_t hc)
          refine AtO.seg 6 (by kernel_rfl) ?_
          refine AtO.go (p' := [1, 1, 1, 1, 1]) (F' := [(4, .lit (.bool ((r19.2 == r21.2))))]) 0 (by kernel_rfl) (by kernel_rfl) ?_
          exact Pt.ret ((r19.2 == r21.2)) (by kernel_rfl) (by kernel_rfl) h
        · have h := ite_f h (beq_f hc)
          refine AtO.seg 6 (by kernel_rfl) ?_
          refine AtO.go (p' := [1, 1, 1, 1, 1]) (F' := [(4, .lit (.bool false))]) 0 (by kernel_rfl) (by kernel_rfl) ?_
          exact Pt.ret false (by kernel_rfl) (by kernel_rfl) h
      · have h := ite_f h (fls hc)
        refine AtO.seg 2 (by kernel_rfl) ?_
        refine AtO.go (p' := [1, 0, 1, 0, 0]) (F' := []) 1 (by kernel_rfl) (by kernel_rfl) ?_
        exact h
    · have h := ite_f h (fls hc)
      refine AtO.seg 7 (by kernel_rfl) ?_
      refine AtO.go (p' := [1, 0, 1, 0, 0]) (F' := []) 1 (by kernel_rfl) (by kernel_rfl) ?_
      exact h
  · have h := ite_f h (fls hc)
    refine AtO.seg 11 (by kernel_rfl) ?_
    refine AtO.go (p' := [1, 0, 1, 0, 0]) (F' := []) 1 (by kernel_rfl) (by kernel_rfl) ?_
    exact h
end drosslaw08_PartitionRemoval
end Go.Own

namespace Go.Own
open Go.Proofs D
set_option maxRecDepth 100000
set_option maxHeartbeats 4000000
namespace drosslaw08_PartitionLeast
noncomputable def B : Code := (Tryd.f8.body).getD .skip
def W : List Nat := [0, 1, 2, 3, 4, 5, 6, 7, 8, 9, 10, 27, 47, 52, 53, 54, 60, 63, 64, 65, 97, 100]
def res (r : Bool) : D × List D := (.lit (.bool r), [])
def C (x0 : (List Int × List Int)) (r : Bool) : Prop := Ret env 8 [.agg [.sl (x0.1.map (eI .u8)), .sl (x0.2.map (eI .u8))]] (res r).1 (res r).2
def L1  (φ : Bool → Prop) : Prop := Pt env 8 W B [1, 0, 1, 0, 0] [] (Lv env 8 Tryd.f8 1 res φ)
def L2 (x0 : (List Int × List Int)) (r11 : Int × Int) (y5_L2 : Int) (y6_L2 : Int) (φ : Bool → Prop) : Prop := Pt env 8 W B [1, 1, 1, 1, 0, 1, 0] [(0, .agg [.sl (x0.1.map (eI .u8)), .sl (x0.2.map (eI .u8))]), (1, .box [.sl (x0.1.map (eI .u8)), .sl (x0.2.map (eI .u8))]), (3, .lit (.int .i64 r11.1)), (4, .lit (.int .i64 r11.2)), (5, .lit (.int .i64 y5_L2)), (6, .lit (.int .i64 y6_L2))] (Lv env 8 Tryd.f8 1 res φ)
def L3 (x0 : (List Int × List Int)) (r11 : Int × Int) (y5_L3 : Int) (y6_L3 : Int) (y7_L3 : Bool) (y8_L3 : Int) (y53_L3 : Int) (φ : Bool → Prop) : Prop := Pt env 8 W B [1, 1, 1, 1, 0, 1, 0, 0, 1, 0, 0, 1, 0, 1, 0] [(0, .agg [.sl (x0.1.map (eI .u8)), .sl (x0.2.map (eI .u8))]), (1, .box [.sl (x0.1.map (eI .u8)), .sl (x0.2.map (eI .u8))]), (3, .lit (.int .i64 r11.1)), (4, .lit (.int .i64 r11.2)), (5, .lit (.int .i64 y5_L3)), (6, .lit (.int .i64 y6_L3)), (7, .lit (.bool y7_L3)), (8, .lit (.int .i64 y8_L3)), (52, .lit (.int .i64 ((x0.1.length : Int)))), (53, .lit (.int .i64 y53_L3))] (Lv env 8 Tryd.f8 1 res φ)
def L6 (x0 : (List Int × List Int)) (r11 : Int × Int) (y5_L3 : Int) (y6_L3 : Int) (y7_L6 : Bool) (y8_L6 : Int) (y53_L3 : Int) (φ : Bool → Prop) : Prop := Pt env 8 W B [1, 1, 1, 1, 0, 1, 0, 0, 1, 0, 0, 1, 0, 1, 0, 0, 1, 1, 1] [(0, .agg [.sl (x0.1.map (eI .u8)), .sl (x0.2.map (eI .u8))]), (1, .box [.sl (x0.1.map (eI .u8)), .sl (x0.2.map (eI .u8))]), (3, .lit (.int .i64 r11.1)), (4, .lit (.int .i64 r11.2)), (5, .lit (.int .i64 y5_L3)), (6, .lit (.int .i64 y6_L3)), (7, .lit (.bool y7_L6)), (8, .lit (.int .i64 y8_L6)), (52, .lit (.int .i64 ((x0.1.length : Int)))), (53, .lit (.int .i64 y53_L3))] (Lv env 8 Tryd.f8 1 res φ)
def L4 (x0 : (List Int × List Int)) (r11 : Int × Int) (y5_L4 : Int) (y6_L4 : Int) (y7_L4 : Bool) (y8_L3 : Int) (y53_L3 : Int) (y64_L4 : Int) (φ : Bool → Prop) : Prop := Pt env 8 W B [1, 1, 1, 1, 0, 1, 0, 0, 1, 0, 0, 1, 0, 1, 0, 0, 1, 1, 0, 0, 1, 1, 1, 0] [(0, .agg [.sl (x0.1.map (eI .u8)), .sl (x0.2.map (eI .u8))]), (1, .box [.sl (x0.1.map (eI .u8)), .sl (x0.2.map (eI .u8))]), (3, .lit (.int .i64 r11.1)), (4, .lit (.int .i64 r11.2)), (5, .lit (.int .i64 y5_L4)), (6, .lit (.int .i64 y6_L4)), (7, .lit (.bool y7_L4)), (8, .lit (.int .i64 y8_L3)), (9, .lit (.int .i64 y53_L3)), (52, .lit (.int .i64 ((x0.1.length : Int)))), (53, .lit (.int .i64 y53_L3)), (63, .lit (.int .i64 y53_L3)), (64, .lit (.int .i64 y64_L4))] (Lv env 8 Tryd.f8 1 res φ)
def L7 (x0 : (List Int × List Int)) (r11 : Int × Int) (y5_L7 : Int) (y6_L3 : Int) (φ : Bool → Prop) : Prop := Pt env 8 W B [1, 1, 1, 1, 0, 1, 0, 0, 1, 1] [(0, .agg [.sl (x0.1.map (eI .u8)), .sl (x0.2.map (eI .u8))]), (1, .box [.sl (x0.1.map (eI .u8)), .sl (x0.2.map (eI .u8))]), (3, .lit (.int .i64 r11.1)), (4, .lit (.int .i64 r11.2)), (5, .lit (.int .i64 y5_L7)), (6, .lit (.int .i64 y6_L3))] (Lv env 8 Tryd.f8 1 res φ)
def L5 (x0 : (List Int × List Int)) (r11 : Int × Int) (y5_L4 : Int) (y6_L4 : Int) (y7_L5 : Bool) (y8_L3 : Int) (y53_L3 : Int) (y64_L4 : Int) (φ : Bool → Prop) : Prop := Pt env 8 W B [1, 1, 1, 1, 0, 1, 0, 0, 1, 0, 0, 1, 0, 1, 0, 0, 1, 1, 0, 0, 1, 1, 1, 0, 0, 1, 1, 1] [(0, .agg [.sl (x0.1.map (eI .u8)), .sl (x0.2.map (eI .u8))]), (1, .box [.sl (x0.1.map (eI .u8)), .sl (x0.2.map (eI .u8))]), (3, .lit (.int .i64 r11.1)), (4, .lit (.int .i64 r11.2)), (5, .lit (.int .i64 y5_L4)), (6, .lit (.int .i64 y6_L4)), (7, .lit (.bool y7_L5)), (8, .lit (.int .i64 y8_L3)), (9, .lit (.int .i64 y53_L3)), (52, .lit (.int .i64 ((x0.1.length : Int)))), (53, .lit (.int .i64 y53_L3)), (63, .lit (.int .i64 y53_L3)), (64, .lit (.int .i64 y64_L4))] (Lv env 8 Tryd.f8 1 res φ)
theorem L1_step  (φ : Bool → Prop) (h :
    ∃ r277 : Bool, drosslaw08_awake.C  r277 ∧
    φ r277) : L1  φ := by
  unfold L1
  refine Pt.reg (by kernel_rfl) ?_
  obtain ⟨r277, h278, h⟩ := h
  refine AtO.call0 (x := (.func 11)) (g := 11) (caps := []) (agl := []) (ds := []) (r := .lit (.bool r277)) (r' := .lit (.bool r277)) (ms := []) (by kernel_rfl) (by kernel_rfl) (by kernel_rfl) (by kernel_rfl) (by kernel_rfl) (by kernel_rfl) pass_nil h278 rfl (by kernel_rfl) ?_
  refine AtO.seg 1 (by kernel_rfl) ?_
  refine AtO.go (p' := [1, 0, 1, 0, 1]) (F' := [(2, .lit (.bool r277))]) 0 (by kernel_rfl) (by kernel_rfl) ?_
  exact Pt.ret r277 (by kernel_rfl) (by kernel_rfl) h
theorem L2_step (x0 : (List Int × List Int)) (r11 : Int × Int) (y5_L2 : Int) (y6_L2 : Int) (φ : Bool → Prop) (h :
    0 ≤ (x0.1.length : Int) ∧
    (if y6_L2 < (shlw .i64 1 (x0.1.length : Int)) then
      drosslaw08_PartitionLeast.L3 x0 r11 y5_L2 y6_L2 true 0 0 φ
    else
      (if r11.2 = 0 then
        φ ((r11.1 == y5_L2))
      else
        φ false))) : L2 x0 r11 y5_L2 y6_L2 φ := by
  unfold L2
  refine Pt.loop (p' := [1, 1, 1, 1, 0, 1, 0, 0, 0, 0]) (by kernel_rfl) (by kernel_rfl) ?_
  refine Pt.reg (by kernel_rfl) ?_
  refine AtO.seg 3 (by kernel_rfl) ?_
  refine AtO.val (by kernel_rfl) (val_len (x := (.tmp 44)) (t := 40) (et := 5) (d := .sl (x0.1.map (eI .u8))) (e := (eI .u8)) (l := x0.1) (by kernel_rfl) (by kernel_rfl) elemsOf_sl (by kernel_rfl)) ?_
  obtain ⟨h279, h⟩ := h
  refine AtO.val (by kernel_rfl) (val_bin (op := .shl) (tx := 3) (ty := _) (x := (.const (.int .i64 1))) (y := (.tmp 45)) (d1 := .lit (.int .i64 1)) (d2 := .lit (.int .i64 ((x0.1.length : Int)))) rfl (by kernel_rfl) (by kernel_rfl) (bin_shl h279)) ?_
  refine AtO.bool (b := (decide (y6_L2 < (shlw .i64 1 (x0.1.length : Int))))) (by kernel_rfl) (by kernel_rfl) (fun hc => ?_) (fun hc => ?_)
  · have h := ite_t h (of_decide_eq_true hc)
    refine AtO.go (p' := [1, 1, 1, 1, 0, 1, 0, 0, 1, 0, 0, 0]) (F' := [(0, .agg [.sl (x0.1.map (eI .u8)), .sl (x0.2.map (eI .u8))]), (1, .box [.sl (x0.1.map (eI .u8)), .sl (x0.2.map (eI .u8))]), (3, .lit (.int .i64 r11.1)), (4, .lit (.int .i64 r11.2)), (5, .lit (.int .i64 y5_L2)), (6, .lit (.int .i64 y6_L2))]) 2 (by kernel_rfl) (by kernel_rfl) ?_
    refine Pt.reg (by kernel_rfl) ?_
    refine AtO.seg 2 (by kernel_rfl) ?_
    refine AtO.go (p' := [1, 1, 1, 1, 0, 1, 0, 0, 1, 0, 0, 1, 0, 0]) (F' := [(0, .agg [.sl (x0.1.map (eI .u8)), .sl (x0.2.map (eI .u8))]), (1, .box [.sl (x0.1.map (eI .u8)), .sl (x0.2.map (eI .u8))]), (3, .lit (.int .i64 r11.1)), (4, .lit (.int .i64 r11.2)), (5, .lit (.int .i64 y5_L2)), (6, .lit (.int .i64 y6_L2)), (7, .lit (.bool true)), (8, .lit (.int .i64 0))]) 0 (by kernel_rfl) (by kernel_rfl) ?_
    refine Pt.reg (by kernel_rfl) ?_
    refine AtO.seg 2 (by kernel_rfl) ?_
    refine AtO.val (by kernel_rfl) (val_len (x := (.tmp 51)) (t := 40) (et := 5) (d := .sl (x0.1.map (eI .u8))) (e := (eI .u8)) (l := x0.1) (by kernel_rfl) (by kernel_rfl) elemsOf_sl (by kernel_rfl)) ?_
    refine AtO.seg 1 (by kernel_rfl) ?_
    refine AtO.go (p' := [1, 1, 1, 1, 0, 1, 0, 0, 1, 0, 0, 1, 0, 1, 0]) (F' := [(0, .agg [.sl (x0.1.map (eI .u8)), .sl (x0.2.map (eI .u8))]), (1, .box [.sl (x0.1.map (eI .u8)), .sl (x0.2.map (eI .u8))]), (3, .lit (.int .i64 r11.1)), (4, .lit (.int .i64 r11.2)), (5, .lit (.int .i64 y5_L2)), (6, .lit (.int .i64 y6_L2)), (7, .lit (.bool true)), (8, .lit (.int .i64 0)), (52, .lit (.int .i64 ((x0.1.length : Int)))), (53, .lit (.int .i64 0))]) 0 (by kernel_rfl) (by kernel_rfl) ?_
    exact h
  · have h := ite_f h (of_decide_eq_false hc)
    refine AtO.go (p' := [1, 1, 1, 1, 1, 0]) (F' := [(3, .lit (.int .i64 r11.1)), (4, .lit (.int .i64 r11.2)), (5, .lit (.int .i64 y5_L2))]) 2 (by kernel_rfl) (by kernel_rfl) ?_
    refine Pt.reg (by kernel_rfl) ?_
    refine AtO.seg 1 (by kernel_rfl) ?_
    refine AtO.bool (b := (r11.2 == 0)) (by kernel_rfl) (by kernel_rfl) (fun hc => ?_) (fun hc => ?_)
    · have h := ite_t h (beq_t hc)
      refine AtO.seg 6 (by kernel_rfl) ?_
      refine AtO.go (p' := [1, 1, 1, 1, 1, 1]) (F' := [(2, .lit (.bool ((r11.1 == y5_L2))))]) 0 (by kernel_rfl) (by kernel_rfl) ?_
      exact Pt.ret ((r11.1 == y5_L2)) (by kernel_rfl) (by kernel_rfl) h
    · have h := ite_f h (beq_f hc)
      refine AtO.seg 6 (by kernel_rfl) ?_
      refine AtO.go (p' := [1, 1, 1, 1, 1, 1]) (F' := [(2, .lit (.bool false))]) 0 (by kernel_rfl) (by kernel_rfl) ?_
      exact Pt.ret false (by kernel_rfl) (by kernel_rfl) h
theorem L3_step (x0 : (List Int × List Int)) (r11 : Int × Int) (y5_L3 : Int) (y6_L3 : Int) (y7_L3 : Bool) (y8_L3 : Int) (y53_L3 : Int) (φ : Bool → Prop) (h :
    (if y53_L3 < (x0.1.length : Int) then
      0 ≤ y53_L3 ∧
      (if (bAnd .i64 (shrw .i64 y6_L3 y53_L3) 1) = 0 then
        drosslaw08_PartitionLeast.L6 x0 r11 y5_L3 y6_L3 y7_L3 ((IntKind.wrap .i64 (y8_L3 + 1))) y53_L3 φ
      else
        drosslaw08_PartitionLeast.L4 x0 r11 y5_L3 y6_L3 y7_L3 y8_L3 y53_L3 0 φ)
    else
      (if y7_L3 = true then
        drosslaw08_PartitionLeast.L7 x0 r11 ((imin y5_L3 y8_L3)) y6_L3 φ
      else
        drosslaw08_PartitionLeast.L7 x0 r11 y5_L3 y6_L3 φ))) : L3 x0 r11 y5_L3 y6_L3 y7_L3 y8_L3 y53_L3 φ := by
  unfold L3
  refine Pt.loop (p' := [1, 1, 1, 1, 0, 1, 0, 0, 1, 0, 0, 1, 0, 1, 0, 0, 0]) (by kernel_rfl) (by kernel_rfl) ?_
  refine Pt.reg (by kernel_rfl) ?_
  refine AtO.bool (b := (decide (y53_L3 < (x0.1.length : Int)))) (by kernel_rfl) (by kernel_rfl) (fun hc => ?_) (fun hc => ?_)
  · have h := ite_t h (of_decide_eq_true hc)
    refine AtO.go (p' := [1, 1, 1, 1, 0, 1, 0, 0, 1, 0, 0, 1, 0, 1, 0, 0, 1, 1, 0, 0, 0]) (F' := [(0, .agg [.sl (x0.1.map (eI .u8)), .sl (x0.2.map (eI .u8))]), (1, .box [.sl (x0.1.map (eI .u8)), .sl (x0.2.map (eI .u8))]), (3, .lit (.int .i64 r11.1)), (4, .lit (.int .i64 r11.2)), (5, .lit (.int .i64 y5_L3)), (6, .lit (.int .i64 y6_L3)), (7, .lit (.bool y7_L3)), (8, .lit (.int .i64 y8_L3)), (52, .lit (.int .i64 ((x0.1.length : Int)))), (53, .lit (.int .i64 y53_L3))]) 2 (by kernel_rfl) (by kernel_rfl) ?_
    refine Pt.reg (by kernel_rfl) ?_
    refine AtO.seg 2 (by kernel_rfl) ?_
    refine AtO.go (p' := [1, 1, 1, 1, 0, 1, 0, 0, 1, 0, 0, 1, 0, 1, 0, 0, 1, 1, 0, 0, 1, 0, 0]) (F' := [(0, .agg [.sl (x0.1.map (eI .u8)), .sl (x0.2.map (eI .u8))]), (1, .box [.sl (x0.1.map (eI .u8)), .sl (x0.2.map (eI .u8))]), (3, .lit (.int .i64 r11.1)), (4, .lit (.int .i64 r11.2)), (5, .lit (.int .i64 y5_L3)), (6, .lit (.int .i64 y6_L3)), (7, .lit (.bool y7_L3)), (8, .lit (.int .i64 y8_L3)), (9, .lit (.int .i64 y53_L3)), (52, .lit (.int .i64 ((x0.1.length : Int)))), (53, .lit (.int .i64 y53_L3))]) 0 (by kernel_rfl) (by kernel_rfl) ?_
    refine Pt.reg (by kernel_rfl) ?_
    obtain ⟨h280, h⟩ := h
    refine AtO.seg 2 (by kernel_rfl) ?_
    refine AtO.val (by kernel_rfl) (val_bin (op := .shr) (tx := 3) (ty := _) (x := (.tmp 56)) (y := (.tmp 57)) (d1 := .lit (.int .i64 y6_L3)) (d2 := .lit (.int .i64 y53_L3)) rfl (by kernel_rfl) (by kernel_rfl) (bin_shr h280)) ?_
    refine AtO.seg 1 (by kernel_rfl) ?_
    refine AtO.bool (b := ((bAnd .i64 (shrw .i64 y6_L3 y53_L3) 1) == 0)) (by kernel_rfl) (by kernel_rfl) (fun hc => ?_) (fun hc => ?_)
    · have h := ite_t h (beq_t hc)
      refine AtO.go (p' := [1, 1, 1, 1, 0, 1, 0, 0, 1, 0, 0, 1, 0, 1, 0, 0, 1, 1, 0, 0, 1, 0, 1, 0, 0]) (F' := [(0, .agg [.sl (x0.1.map (eI .u8)), .sl (x0.2.map (eI .u8))]), (1, .box [.sl (x0.1.map (eI .u8)), .sl (x0.2.map (eI .u8))]), (3, .lit (.int .i64 r11.1)), (4, .lit (.int .i64 r11.2)), (5, .lit (.int .i64 y5_L3)), (6, .lit (.int .i64 y6_L3)), (7, .lit (.bool y7_L3)), (8, .lit (.int .i64 y8_L3)), (52, .lit (.int .i64 ((x0.1.length : Int)))), (53, .lit (.int .i64 y53_L3))]) 1 (by kernel_rfl) (by kernel_rfl) ?_
      refine Pt.reg (by kernel_rfl) ?_
      refine AtO.seg 3 (by kernel_rfl) ?_
      refine AtO.go (p' := [1, 1, 1, 1, 0, 1, 0, 0, 1, 0, 0, 1, 0, 1, 0, 0, 1, 1, 1]) (F' := [(0, .agg [.sl (x0.1.map (eI .u8)), .sl (x0.2.map (eI .u8))]), (1, .box [.sl (x0.1.map (eI .u8)), .sl (x0.2.map (eI .u8))]), (3, .lit (.int .i64 r11.1)), (4, .lit (.int .i64 r11.2)), (5, .lit (.int .i64 y5_L3)), (6, .lit (.int .i64 y6_L3)), (7, .lit (.bool y7_L3)), (8, .lit (.int .i64 ((IntKind.wrap .i64 (y8_L3 + 1))))), (52, .lit (.int .i64 ((x0.1.length : Int)))), (53, .lit (.int .i64 y53_L3))]) 1 (by kernel_rfl) (by kernel_rfl) ?_
      exact h
    · have h := ite_f h (beq_f hc)
      refine AtO.go (p' := [1, 1, 1, 1, 0, 1, 0, 0, 1, 0, 0, 1, 0, 1, 0, 0, 1, 1, 0, 0, 1, 1, 0]) (F' := [(0, .agg [.sl (x0.1.map (eI .u8)), .sl (x0.2.map (eI .u8))]), (1, .box [.sl (x0.1.map (eI .u8)), .sl (x0.2.map (eI .u8))]), (3, .lit (.int .i64 r11.1)), (4, .lit (.int .i64 r11.2)), (5, .lit (.int .i64 y5_L3)), (6, .lit (.int .i64 y6_L3)), (7, .lit (.bool y7_L3)), (8, .lit (.int .i64 y8_L3)), (9, .lit (.int .i64 y53_L3)), (52, .lit (.int .i64 ((x0.1.length : Int)))), (53, .lit (.int .i64 y53_L3))]) 2 (by kernel_rfl) (by kernel_rfl) ?_
      refine Pt.reg (by kernel_rfl) ?_
      refine AtO.seg 2 (by kernel_rfl) ?_
      refine AtO.go (p' := [1, 1, 1, 1, 0, 1, 0, 0, 1, 0, 0, 1, 0, 1, 0, 0, 1, 1, 0, 0, 1, 1, 1, 0]) (F' := [(0, .agg [.sl (x0.1.map (eI .u8)), .sl (x0.2.map (eI .u8))]), (1, .box [.sl (x0.1.map (eI .u8)), .sl (x0.2.map (eI .u8))]), (3, .lit (.int .i64 r11.1)), (4, .lit (.int .i64 r11.2)), (5, .lit (.int .i64 y5_L3)), (6, .lit (.int .i64 y6_L3)), (7, .lit (.bool y7_L3)), (8, .lit (.int .i64 y8_L3)), (9, .lit (.int .i64 y53_L3)), (52, .lit (.int .i64 ((x0.1.length : Int)))), (53, .lit (.int .i64 y53_L3)), (63, .lit (.int .i64 y53_L3)), (64, .lit (.int .i64 0))]) 0 (by kernel_rfl) (by kernel_rfl) ?_
      exact h
  · have h := ite_f h (of_decide_eq_false hc)
    refine AtO.go (p' := [1, 1, 1, 1, 0, 1, 0, 0, 1, 0, 0, 1, 1, 0]) (F' := [(0, .agg [.sl (x0.1.map (eI .u8)), .sl (x0.2.map (eI .u8))]), (1, .box [.sl (x0.1.map (eI .u8)), .sl (x0.2.map (eI .u8))]), (3, .lit (.int .i64 r11.1)), (4, .lit (.int .i64 r11.2)), (5, .lit (.int .i64 y5_L3)), (6, .lit (.int .i64 y6_L3)), (7, .lit (.bool y7_L3)), (8, .lit (.int .i64 y8_L3))]) 2 (by kernel_rfl) (by kernel_rfl) ?_
    refine Pt.reg (by kernel_rfl) ?_
    refine AtO.bool (b := y7_L3) (by kernel_rfl) (by kernel_rfl) (fun hc => ?_) (fun hc => ?_)
    · have h := ite_t h (id hc)
      refine AtO.go (p' := [1, 1, 1, 1, 0, 1, 0, 0, 1, 0, 0, 1, 1, 1, 0]) (F' := [(0, .agg [.sl (x0.1.map (eI .u8)), .sl (x0.2.map (eI .u8))]), (1, .box [.sl (x0.1.map (eI .u8)), .sl (x0.2.map (eI .u8))]), (3, .lit (.int .i64 r11.1)), (4, .lit (.int .i64 r11.2)), (5, .lit (.int .i64 y5_L3)), (6, .lit (.int .i64 y6_L3)), (8, .lit (.int .i64 y8_L3))]) 1 (by kernel_rfl) (by kernel_rfl) ?_
      refine Pt.reg (by kernel_rfl) ?_
      refine AtO.seg 4 (by kernel_rfl) ?_
      refine AtO.go (p' := [1, 1, 1, 1, 0, 1, 0, 0, 1, 1]) (F' := [(0, .agg [.sl (x0.1.map (eI .u8)), .sl (x0.2.map (eI .u8))]), (1, .box [.sl (x0.1.map (eI .u8)), .sl (x0.2.map (eI .u8))]), (3, .lit (.int .i64 r11.1)), (4, .lit (.int .i64 r11.2)), (5, .lit (.int .i64 ((imin y5_L3 y8_L3)))), (6, .lit (.int .i64 y6_L3))]) 0 (by kernel_rfl) (by kernel_rfl) ?_
      exact h
    · have h := ite_f h (fls hc)
      refine AtO.go (p' := [1, 1, 1, 1, 0, 1, 0, 0, 1, 1]) (F' := [(0, .agg [.sl (x0.1.map (eI .u8)), .sl (x0.2.map (eI .u8))]), (1, .box [.sl (x0.1.map (eI .u8)), .sl (x0.2.map (eI .u8))]), (3, .lit (.int .i64 r11.1)), (4, .lit (.int .i64 r11.2)), (5, .lit (.int .i64 y5_L3)), (6, .lit (.int .i64 y6_L3))]) 2 (by kernel_rfl) (by kernel_rfl) ?_
      exact h
theorem L6_step (x0 : (List Int × List Int)) (r11 : Int × Int) (y5_L3 : Int) (y6_L3 : Int) (y7_L6 : Bool) (y8_L6 : Int) (y53_L3 : Int) (φ : Bool → Prop) (h :
    drosslaw08_PartitionLeast.L3 x0 r11 y5_L3 y6_L3 y7_L6 y8_L6 ((IntKind.wrap .i64 (y53_L3 + 1))) φ) : L6 x0 r11 y5_L3 y6_L3 y7_L6 y8_L6 y53_L3 φ := by
  unfold L6
  refine Pt.reg (by kernel_rfl) ?_
  refine AtO.seg 2 (by kernel_rfl) ?_
  refine AtO.go (p' := [1, 1, 1, 1, 0, 1, 0, 0, 1, 0, 0, 1, 0, 1, 0]) (F' := [(0, .agg [.sl (x0.1.map (eI .u8)), .sl (x0.2.map (eI .u8))]), (1, .box [.sl (x0.1.map (eI .u8)), .sl (x0.2.map (eI .u8))]), (3, .lit (.int .i64 r11.1)), (4, .lit (.int .i64 r11.2)), (5, .lit (.int .i64 y5_L3)), (6, .lit (.int .i64 y6_L3)), (7, .lit (.bool y7_L6)), (8, .lit (.int .i64 y8_L6)), (52, .lit (.int .i64 ((x0.1.length : Int)))), (53, .lit (.int .i64 ((IntKind.wrap .i64 (y53_L3 + 1)))))]) 0 (by kernel_rfl) (by kernel_rfl) ?_
  exact h
theorem L4_step (x0 : (List Int × List Int)) (r11 : Int × Int) (y5_L4 : Int) (y6_L4 : Int) (y7_L4 : Bool) (y8_L3 : Int) (y53_L3 : Int) (y64_L4 : Int) (φ : Bool → Prop) (h :
    (if y64_L4 < y53_L3 then
      0 ≤ y64_L4 ∧
      (if (bAnd .i64 (shrw .i64 y6_L4 y64_L4) 1) = 1 then
        ∃ a282, lget x0.1 y53_L3 = some a282 ∧
        ∃ a284, lget x0.1 y64_L4 = some a284 ∧
        (if a282 = a284 then
          ∃ a286, lget x0.2 y53_L3 = some a286 ∧
          ∃ a288, lget x0.2 y64_L4 = some a288 ∧
          (if a286 = a288 then
            drosslaw08_PartitionLeast.L5 x0 r11 y5_L4 y6_L4 y7_L4 y8_L3 y53_L3 y64_L4 φ
          else
            drosslaw08_PartitionLeast.L5 x0 r11 y5_L4 y6_L4 false y8_L3 y53_L3 y64_L4 φ)
        else
          drosslaw08_PartitionLeast.L5 x0 r11 y5_L4 y6_L4 y7_L4 y8_L3 y53_L3 y64_L4 φ)
      else
        drosslaw08_PartitionLeast.L5 x0 r11 y5_L4 y6_L4 y7_L4 y8_L3 y53_L3 y64_L4 φ)
    else
      drosslaw08_PartitionLeast.L6 x0 r11 y5_L4 y6_L4 y7_L4 y8_L3 y53_L3 φ)) : L4 x0 r11 y5_L4 y6_L4 y7_L4 y8_L3 y53_L3 y64_L4 φ := by
  unfold L4
  refine Pt.loop (p' := [1, 1, 1, 1, 0, 1, 0, 0, 1, 0, 0, 1, 0, 1, 0, 0, 1, 1, 0, 0, 1, 1, 1, 0, 0, 0]) (by kernel_rfl) (by kernel_rfl) ?_
  refine Pt.reg (by kernel_rfl) ?_
  refine AtO.bool (b := (decide (y64_L4 < y53_L3))) (by kernel_rfl) (by kernel_rfl) (fun hc => ?_) (fun hc => ?_)
  · have h := ite_t h (of_decide_eq_true hc)
    refine AtO.go (p' := [1, 1, 1, 1, 0, 1, 0, 0, 1, 0, 0, 1, 0, 1, 0, 0, 1, 1, 0, 0, 1, 1, 1, 0, 0, 1, 1, 0, 0, 0]) (F' := [(0, .agg [.sl (x0.1.map (eI .u8)), .sl (x0.2.map (eI .u8))]), (1, .box [.sl (x0.1.map (eI .u8)), .sl (x0.2.map (eI .u8))]), (3, .lit (.int .i64 r11.1)), (4, .lit (.int .i64 r11.2)), (5, .lit (.int .i64 y5_L4)), (6, .lit (.int .i64 y6_L4)), (7, .lit (.bool y7_L4)), (8, .lit (.int .i64 y8_L3)), (9, .lit (.int .i64 y53_L3)), (52, .lit (.int .i64 ((x0.1.length : Int)))), (53, .lit (.int .i64 y53_L3)), (63, .lit (.int .i64 y53_L3)), (64, .lit (.int .i64 y64_L4))]) 2 (by kernel_rfl) (by kernel_rfl) ?_
    refine Pt.reg (by kernel_rfl) ?_
    refine AtO.seg 2 (by kernel_rfl) ?_
    refine AtO.go (p' := [1, 1, 1, 1, 0, 1, 0, 0, 1, 0, 0, 1, 0, 1, 0, 0, 1, 1, 0, 0, 1, 1, 1, 0, 0, 1, 1, 0, 0, 1, 0]) (F' := [(0, .agg [.sl (x0.1.map (eI .u8)), .sl (x0.2.map (eI .u8))]), (1, .box [.sl (x0.1.map (eI .u8)), .sl (x0.2.map (eI .u8))]), (3, .lit (.int .i64 r11.1)), (4, .lit (.int .i64 r11.2)), (5, .lit (.int .i64 y5_L4)), (6, .lit (.int .i64 y6_L4)), (7, .lit (.bool y7_L4)), (8, .lit (.int .i64 y8_L3)), (9, .lit (.int .i64 y53_L3)), (10, .lit (.int .i64 y64_L4)), (52, .lit (.int .i64 ((x0.1.length : Int)))), (53, .lit (.int .i64 y53_L3)), (63, .lit (.int .i64 y53_L3)), (64, .lit (.int .i64 y64_L4))]) 0 (by kernel_rfl) (by kernel_rfl) ?_
    refine Pt.reg (by kernel_rfl) ?_
    obtain ⟨h281, h⟩ := h
    refine AtO.seg 2 (by kernel_rfl) ?_
    refine AtO.val (by kernel_rfl) (val_bin (op := .shr) (tx := 3) (ty := _) (x := (.tmp 67)) (y := (.tmp 68)) (d1 := .lit (.int .i64 y6_L4)) (d2 := .lit (.int .i64 y64_L4)) rfl (by kernel_rfl) (by kernel_rfl) (bin_shr h281)) ?_
    refine AtO.seg 1 (by kernel_rfl) ?_
    refine AtO.bool (b := ((bAnd .i64 (shrw .i64 y6_L4 y64_L4) 1) == 1)) (by kernel_rfl) (by kernel_rfl) (fun hc => ?_) (fun hc => ?_)
    · have h := ite_t h (beq_t hc)
      obtain ⟨a282, h283, h⟩ := h
      refine AtO.seg 4 (by kernel_rfl) ?_
      refine AtO.val (by kernel_rfl) (val_idx_sl (t := 40) (x := (.tmp 74)) (ix := (.tmp 75)) (et := 5) (k := 1) (e := (eI .u8)) (l := x0.1) (i := y53_L3) (q := .i64) (a := a282) (by kernel_rfl) (by kernel_rfl) (by kernel_rfl) (by kernel_rfl) (by kernel_rfl) h283 (by kernel_rfl)) ?_
      obtain ⟨a284, h285, h⟩ := h
      refine AtO.seg 4 (by kernel_rfl) ?_
      refine AtO.val (by kernel_rfl) (val_idx_sl (t := 40) (x := (.tmp 79)) (ix := (.tmp 80)) (et := 5) (k := 1) (e := (eI .u8)) (l := x0.1) (i := y64_L4) (q := .i64) (a := a284) (by kernel_rfl) (by kernel_rfl) (by kernel_rfl) (by kernel_rfl) (by kernel_rfl) h285 (by kernel_rfl)) ?_
      refine AtO.seg 1 (by kernel_rfl) ?_
      refine AtO.bool (b := (a282 == a284)) (by kernel_rfl) (by kernel_rfl) (fun hc => ?_) (fun hc => ?_)
      · have h := ite_t h (beq_t hc)
        obtain ⟨a286, h287, h⟩ := h
        refine AtO.seg 5 (by kernel_rfl) ?_
        refine AtO.val (by kernel_rfl) (val_idx_sl (t := 40) (x := (.tmp 87)) (ix := (.tmp 88)) (et := 5) (k := 1) (e := (eI .u8)) (l := x0.2) (i := y53_L3) (q := .i64) (a := a286) (by kernel_rfl) (by kernel_rfl) (by kernel_rfl) (by kernel_rfl) (by kernel_rfl) h287 (by kernel_rfl)) ?_
        obtain ⟨a288, h289, h⟩ := h
        refine AtO.seg 4 (by kernel_rfl) ?_
        refine AtO.val (by kernel_rfl) (val_idx_sl (t := 40) (x := (.tmp 92)) (ix := (.tmp 93)) (et := 5) (k := 1) (e := (eI .u8)) (l := x0.2) (i := y64_L4) (q := .i64) (a := a288) (by kernel_rfl) (by kernel_rfl) (by kernel_rfl) (by kernel_rfl) (by kernel_rfl) h289 (by kernel_rfl)) ?_
        refine AtO.seg 1 (by kernel_rfl) ?_
        refine AtO.bool (b := (a286 != a288)) (by kernel_rfl) (by kernel_rfl) (fun hc => ?_) (fun hc => ?_)
        · have h := ite_f h (bne_t hc)
          refine AtO.seg 1 (by kernel_rfl) ?_
          refine AtO.go (p' := [1, 1, 1, 1, 0, 1, 0, 0, 1, 0, 0, 1, 0, 1, 0, 0, 1, 1, 0, 0, 1, 1, 1, 0, 0, 1, 1, 0, 0, 1, 1, 0]) (F' := [(0, .agg [.sl (x0.1.map (eI .u8)), .sl (x0.2.map (eI .u8))]), (1, .box [.sl (x0.1.map (eI .u8)), .sl (x0.2.map (eI .u8))]), (3, .lit (.int .i64 r11.1)), (4, .lit (.int .i64 r11.2)), (5, .lit (.int .i64 y5_L4)), (6, .lit (.int .i64 y6_L4)), (8, .lit (.int .i64 y8_L3)), (9, .lit (.int .i64 y53_L3)), (52, .lit (.int .i64 ((x0.1.length : Int)))), (53, .lit (.int .i64 y53_L3)), (63, .lit (.int .i64 y53_L3)), (64, .lit (.int .i64 y64_L4))]) 1 (by kernel_rfl) (by kernel_rfl) ?_
          refine Pt.reg (by kernel_rfl) ?_
          refine AtO.seg 1 (by kernel_rfl) ?_
          refine AtO.go (p' := [1, 1, 1, 1, 0, 1, 0, 0, 1, 0, 0, 1, 0, 1, 0, 0, 1, 1, 0, 0, 1, 1, 1, 0, 0, 1, 1, 1]) (F' := [(0, .agg [.sl (x0.1.map (eI .u8)), .sl (x0.2.map (eI .u8))]), (1, .box [.sl (x0.1.map (eI .u8)), .sl (x0.2.map (eI .u8))]), (3, .lit (.int .i64 r11.1)), (4, .lit (.int .i64 r11.2)), (5, .lit (.int .i64 y5_L4)), (6, .lit (.int .i64 y6_L4)), (7, .lit (.bool false)), (8, .lit (.int .i64 y8_L3)), (9, .lit (.int .i64 y53_L3)), (52, .lit (.int .i64 ((x0.1.length : Int)))), (53, .lit (.int .i64 y53_L3)), (63, .lit (.int .i64 y53_L3)), (64, .lit (.int .i64 y64_L4))]) 0 (by kernel_rfl) (by kernel_rfl) ?_
          exact h
        · have h := ite_t h (bne_f hc)
          refine AtO.seg 1 (by kernel_rfl) ?_
          refine AtO.go (p' := [1, 1, 1, 1, 0, 1, 0, 0, 1, 0, 0, 1, 0, 1, 0, 0, 1, 1, 0, 0, 1, 1, 1, 0, 0, 1, 1, 1]) (F' := [(0, .agg [.sl (x0.1.map (eI .u8)), .sl (x0.2.map (eI .u8))]), (1, .box [.sl (x0.1.map (eI .u8)), .sl (x0.2.map (eI .u8))]), (3, .lit (.int .i64 r11.1)), (4, .lit (.int .i64 r11.2)), (5, .lit (.int .i64 y5_L4)), (6, .lit (.int .i64 y6_L4)), (7, .lit (.bool y7_L4)), (8, .lit (.int .i64 y8_L3)), (9, .lit (.int .i64 y53_L3)), (52, .lit (.int .i64 ((x0.1.length : Int)))), (53, .lit (.int .i64 y53_L3)), (63, .lit (.int .i64 y53_L3)), (64, .lit (.int .i64 y64_L4))]) 2 (by kernel_rfl) (by kernel_rfl) ?_
          exact h
      · have h := ite_f h (beq_f hc)
        refine AtO.seg 14 (by kernel_rfl) ?_
        refine AtO.go (p' := [1, 1, 1, 1, 0, 1, 0, 0, 1, 0, 0, 1, 0, 1, 0, 0, 1, 1, 0, 0, 1, 1, 1, 0, 0, 1, 1, 1]) (F' := [(0, .agg [.sl (x0.1.map (eI .u8)), .sl (x0.2.map (eI .u8))]), (1, .box [.sl (x0.1.map (eI .u8)), .sl (x0.2.map (eI .u8))]), (3, .lit (.int .i64 r11.1)), (4, .lit (.int .i64 r11.2)), (5, .lit (.int .i64 y5_L4)), (6, .lit (.int .i64 y6_L4)), (7, .lit (.bool y7_L4)), (8, .lit (.int .i64 y8_L3)), (9, .lit (.int .i64 y53_L3)), (52, .lit (.int .i64 ((x0.1.length : Int)))), (53, .lit (.int .i64 y53_L3)), (63, .lit (.int .i64 y53_L3)), (64, .lit (.int .i64 y64_L4))]) 2 (by kernel_rfl) (by kernel_rfl) ?_
        exact h
    · have h := ite_f h (beq_f hc)
      refine AtO.seg 26 (by kernel_rfl) ?_
      refine AtO.go (p' := [1, 1, 1, 1, 0, 1, 0, 0, 1, 0, 0, 1, 0, 1, 0, 0, 1, 1, 0, 0, 1, 1, 1, 0, 0, 1, 1, 1]) (F' := [(0, .agg [.sl (x0.1.map (eI .u8)), .sl (x0.2.map (eI .u8))]), (1, .box [.sl (x0.1.map (eI .u8)), .sl (x0.2.map (eI .u8))]), (3, .lit (.int .i64 r11.1)), (4, .lit (.int .i64 r11.2)), (5, .lit (.int .i64 y5_L4)), (6, .lit (.int .i64 y6_L4)), (7, .lit (.bool y7_L4)), (8, .lit (.int .i64 y8_L3)), (9, .lit (.int .i64 y53_L3)), (52, .lit (.int .i64 ((x0.1.length : Int)))), (53, .lit (.int .i64 y53_L3)), (63, .lit (.int .i64 y53_L3)), (64, .lit (.int .i64 y64_L4))]) 2 (by kernel_rfl) (by kernel_rfl) ?_
      exact h
  · have h := ite_f h (of_decide_eq_false hc)
    refine AtO.go (p' := [1, 1, 1, 1, 0, 1, 0, 0, 1, 0, 0, 1, 0, 1, 0, 0, 1, 1, 1]) (F' := [(0, .agg [.sl (x0.1.map (eI .u8)), .sl (x0.2.map (eI .u8))]), (1, .box [.sl (x0.1.map (eI .u8)), .sl (x0.2.map (eI .u8))]), (3, .lit (.int .i64 r11.1)), (4, .lit (.int .i64 r11.2)), (5, .lit (.int .i64 y5_L4)), (6, .lit (.int .i64 y6_L4)), (7, .lit (.bool y7_L4)), (8, .lit (.int .i64 y8_L3)), (52, .lit (.int .i64 ((x0.1.length : Int)))), (53, .lit (.int .i64 y53_L3))]) 2 (by kernel_rfl) (by kernel_rfl) ?_
    exact h
theorem L7_step (x0 : (List Int × List Int)) (r11 : Int × Int) (y5_L7 : Int) (y6_L3 : Int) (φ : Bool → Prop) (h :
    drosslaw08_PartitionLeast.L2 x0 r11 y5_L7 ((IntKind.wrap .i64 (y6_L3 + 1))) φ) : L7 x0 r11 y5_L7 y6_L3 φ := by
  unfold L7
  refine Pt.reg (by kernel_rfl) ?_
  refine AtO.seg 3 (by kernel_rfl) ?_
  refine AtO.go (p' := [1, 1, 1, 1, 0, 1, 0]) (F' := [(0, .agg [.sl (x0.1.map (eI .u8)), .sl (x0.2.map (eI .u8))]), (1, .box [.sl (x0.1.map (eI .u8)), .sl (x0.2.map (eI .u8))]), (3, .lit (.int .i64 r11.1)), (4, .lit (.int .i64 r11.2)), (5, .lit (.int .i64 y5_L7)), (6, .lit (.int .i64 ((IntKind.wrap .i64 (y6_L3 + 1)))))]) 0 (by kernel_rfl) (by kernel_rfl) ?_
  exact h
theorem L5_step (x0 : (List Int × List Int)) (r11 : Int × Int) (y5_L4 : Int) (y6_L4 : Int) (y7_L5 : Bool) (y8_L3 : Int) (y53_L3 : Int) (y64_L4 : Int) (φ : Bool → Prop) (h :
    drosslaw08_PartitionLeast.L4 x0 r11 y5_L4 y6_L4 y7_L5 y8_L3 y53_L3 ((IntKind.wrap .i64 (y64_L4 + 1))) φ) : L5 x0 r11 y5_L4 y6_L4 y7_L5 y8_L3 y53_L3 y64_L4 φ := by
  unfold L5
  refine Pt.reg (by kernel_rfl) ?_
  refine AtO.seg 2 (by kernel_rfl) ?_
  refine AtO.go (p' := [1, 1, 1, 1, 0, 1, 0, 0, 1, 0, 0, 1, 0, 1, 0, 0, 1, 1, 0, 0, 1, 1, 1, 0]) (F' := [(0, .agg [.sl (x0.1.map (eI .u8)), .sl (x0.2.map (eI .u8))]), (1, .box [.sl (x0.1.map (eI .u8)), .sl (x0.2.map (eI .u8))]), (3, .lit (.int .i64 r11.1)), (4, .lit (.int .i64 r11.2)), (5, .lit (.int .i64 y5_L4)), (6, .lit (.int .i64 y6_L4)), (7, .lit (.bool y7_L5)), (8, .lit (.int .i64 y8_L3)), (9, .lit (.int .i64 y53_L3)), (52, .lit (.int .i64 ((x0.1.length : Int)))), (53, .lit (.int .i64 y53_L3)), (63, .lit (.int .i64 y53_L3)), (64, .lit (.int .i64 ((IntKind.wrap .i64 (y64_L4 + 1)))))]) 0 (by kernel_rfl) (by kernel_rfl) ?_
  exact h
theorem enter (x0 : (List Int × List Int)) (φ : Bool → Prop) (h :
    ∃ r269 : Bool, drosslaw08_awake.C  r269 ∧
    (if r269 = true then
      (if 10 < (x0.1.length : Int) then
        drosslaw08_PartitionLeast.L1  φ
      else
        (if (x0.2.length : Int) = (x0.1.length : Int) then
          ∃ r271 : api_Partition, drossref08_From.C x0.1 r271 ∧
          ∃ r273 : api_Partition, drossref08_From.C x0.2 r273 ∧
          ∃ r275 : Int × Int, partition_Removal.C r271 r273 r275 ∧
          drosslaw08_PartitionLeast.L2 x0 r275 ((x0.1.length : Int)) 0 φ
        else
          drosslaw08_PartitionLeast.L1  φ))
    else
      drosslaw08_PartitionLeast.L1  φ)) : ∃ r, φ r ∧ C x0 r := by
  refine Ret.of_at (E := env) (f := 8) (fd := Tryd.f8) (body := B) (p := [0]) (V := W) (F := [(0, .agg [.sl (x0.1.map (eI .u8)), .sl (x0.2.map (eI .u8))]), (1, .undef), (2, .undef), (3, .undef), (4, .undef), (5, .undef), (6, .undef), (7, .undef), (8, .undef), (9, .undef), (10, .undef), (27, .undef), (47, .undef), (52, .undef), (53, .undef), (54, .undef), (60, .undef), (63, .undef), (64, .undef), (65, .undef), (97, .undef), (100, .undef)]) (res := res) (φ := φ) (ds := [.agg [.sl (x0.1.map (eI .u8)), .sl (x0.2.map (eI .u8))]]) (by kernel_rfl) (by kernel_rfl) (by kernel_rfl) ⟨Nat.le_of_ble_eq_true (by kernel_rfl), Nat.le_of_ble_eq_true (by kernel_rfl)⟩ (by kernel_rfl) (by kernel_rfl) (by kernel_rfl) ?_
  refine Pt.reg (by kernel_rfl) ?_
  refine AtO.seg 2 (by kernel_rfl) ?_
  refine AtO.go (p' := [1, 0, 0]) (F' := [(0, .agg [.sl (x0.1.map (eI .u8)), .sl (x0.2.map (eI .u8))]), (1, .box [.sl (x0.1.map (eI .u8)), .sl (x0.2.map (eI .u8))])]) 0 (by kernel_rfl) (by kernel_rfl) ?_
  refine Pt.reg (by kernel_rfl) ?_
  obtain ⟨r269, h270, h⟩ := h
  refine AtO.call0 (x := (.func 11)) (g := 11) (caps := []) (agl := []) (ds := []) (r := .lit (.bool r269)) (r' := .lit (.bool r269)) (ms := []) (by kernel_rfl) (by kernel_rfl) (by kernel_rfl) (by kernel_rfl) (by kernel_rfl) (by kernel_rfl) pass_nil h270 rfl (by kernel_rfl) ?_
  refine AtO.putb (fun hc => ?_) (fun hc => ?_)
  · have h := ite_t h (id hc)
    refine AtO.seg 4 (by kernel_rfl) ?_
    refine AtO.val (by kernel_rfl) (val_len (x := (.tmp 15)) (t := 40) (et := 5) (d := .sl (x0.1.map (eI .u8))) (e := (eI .u8)) (l := x0.1) (by kernel_rfl) (by kernel_rfl) elemsOf_sl (by kernel_rfl)) ?_
    refine AtO.bool (b := (decide (10 < (x0.1.length : Int)))) (by kernel_rfl) (by kernel_rfl) (fun hc => ?_) (fun hc => ?_)
    · have h := ite_t h (of_decide_eq_true hc)
      refine AtO.seg 10 (by kernel_rfl) ?_
      refine AtO.go (p' := [1, 0, 1, 0, 0]) (F' := []) 1 (by kernel_rfl) (by kernel_rfl) ?_
      exact h
    · have h := ite_f h (of_decide_eq_false hc)
      refine AtO.seg 4 (by kernel_rfl) ?_
      refine AtO.val (by kernel_rfl) (val_len (x := (.tmp 21)) (t := 40) (et := 5) (d := .sl (x0.2.map (eI .u8))) (e := (eI .u8)) (l := x0.2) (by kernel_rfl) (by kernel_rfl) elemsOf_sl (by kernel_rfl)) ?_
      refine AtO.seg 2 (by kernel_rfl) ?_
      refine AtO.val (by kernel_rfl) (val_len (x := (.tmp 24)) (t := 40) (et := 5) (d := .sl (x0.1.map (eI .u8))) (e := (eI .u8)) (l := x0.1) (by kernel_rfl) (by kernel_rfl) elemsOf_sl (by kernel_rfl)) ?_
      refine AtO.bool (b := ((x0.2.length : Int) != (x0.1.length : Int))) (by kernel_rfl) (by kernel_rfl) (fun hc => ?_) (fun hc => ?_)
      · have h := ite_f h (bne_t hc)
        refine AtO.seg 1 (by kernel_rfl) ?_
        refine AtO.go (p' := [1, 0, 1, 0, 0]) (F' := []) 1 (by kernel_rfl) (by kernel_rfl) ?_
        exact h
      · have h := ite_t h (bne_f hc)
        refine AtO.seg 1 (by kernel_rfl) ?_
        refine AtO.go (p' := [1, 1, 0]) (F' := [(0, .agg [.sl (x0.1.map (eI .u8)), .sl (x0.2.map (eI .u8))]), (1, .box [.sl (x0.1.map (eI .u8)), .sl (x0.2.map (eI .u8))])]) 2 (by kernel_rfl) (by kernel_rfl) ?_
        refine Pt.reg (by kernel_rfl) ?_
        obtain ⟨r271, h272, h⟩ := h
        refine AtO.seg 2 (by kernel_rfl) ?_
        refine AtO.callD (x := (.func 19)) (g := 19) (caps := []) (agl := [.opn (.tmp 31)]) (ds := [.sl (x0.1.map (eI .u8))]) (r := .agg [.lit (.int .i64 r271.Rows), .own (r271.Classes.map (eOw (eI .i64)))]) (r' := .agg [.lit (.int .i64 r271.Rows), .sl (r271.Classes.map (eSl (eI .i64)))]) (by kernel_rfl) (by kernel_rfl) (by kernel_rfl) (by kernel_rfl) (by kernel_rfl) (pass_snap (a := .opn (.tmp 31)) (d0 := .sl (x0.1.map (eI .u8))) (d := .sl (x0.1.map (eI .u8))) (by kernel_rfl) (by kernel_rfl) (by kernel_rfl) pass_nil) h272 (by rw [(flat_agg (flts_cons rfl (flts_cons (flat_ow (e := (eOw (eI .i64))) (Flt.ow (fun _ => rfl))) flts_nil)))]; rfl) (cold_agg (by kernel_rfl) (fcs_cons rfl (fcs_cons (freeze_ow (e := (eOw (eI .i64))) (e' := (eSl (eI .i64))) (Fzn.ow (fun _ => rfl)) r271.Classes) fcs_nil))) ?_
        obtain ⟨r273, h274, h⟩ := h
        refine AtO.seg 2 (by kernel_rfl) ?_
        refine AtO.call0 (x := (.func 19)) (g := 19) (caps := []) (agl := [.opn (.tmp 34)]) (ds := [.sl (x0.2.map (eI .u8))]) (r := .agg [.lit (.int .i64 r273.Rows), .own (r273.Classes.map (eOw (eI .i64)))]) (r' := .agg [.lit (.int .i64 r273.Rows), .sl (r273.Classes.map (eSl (eI .i64)))]) (ms := [none]) (by kernel_rfl) (by kernel_rfl) (by kernel_rfl) (by kernel_rfl) (by kernel_rfl) (by kernel_rfl) (pass_snap (a := .opn (.tmp 34)) (d0 := .sl (x0.2.map (eI .u8))) (d := .sl (x0.2.map (eI .u8))) (by kernel_rfl) (by kernel_rfl) (by kernel_rfl) pass_nil) h274 (flat_agg (flts_cons rfl (flts_cons (flat_ow (e := (eOw (eI .i64))) (Flt.ow (fun _ => rfl))) flts_nil))) (cold_agg (by kernel_rfl) (fcs_cons rfl (fcs_cons (freeze_ow (e := (eOw (eI .i64))) (e' := (eSl (eI .i64))) (Fzn.ow (fun _ => rfl)) r273.Classes) fcs_nil))) ?_
        obtain ⟨r275, h276, h⟩ := h
        refine AtO.call0 (x := (.func 23)) (g := 23) (caps := []) (agl := [.opn (.tmp 32), .opn (.tmp 35)]) (ds := [.agg [.lit (.int .i64 r271.Rows), .sl (r271.Classes.map (eSl (eI .i64)))], .agg [.lit (.int .i64 r273.Rows), .sl (r273.Classes.map (eSl (eI .i64)))]]) (r := .tup [.lit (.int .i64 r275.1), .lit (.int .i64 r275.2)]) (r' := .tup [.lit (.int .i64 r275.1), .lit (.int .i64 r275.2)]) (ms := [none, none]) (by kernel_rfl) (by kernel_rfl) (by kernel_rfl) (by kernel_rfl) (by kernel_rfl) (by kernel_rfl) (pass_snap (a := .opn (.tmp 32)) (d0 := .agg [.lit (.int .i64 r271.Rows), .sl (r271.Classes.map (eSl (eI .i64)))]) (d := .agg [.lit (.int .i64 r271.Rows), .sl (r271.Classes.map (eSl (eI .i64)))]) (by kernel_rfl) (by kernel_rfl) (by kernel_rfl) (pass_snap (a := .opn (.tmp 35)) (d0 := .agg [.lit (.int .i64 r273.Rows), .sl (r273.Classes.map (eSl (eI .i64)))]) (d := .agg [.lit (.int .i64 r273.Rows), .sl (r273.Classes.map (eSl (eI .i64)))]) (by kernel_rfl) (by kernel_rfl) (by kernel_rfl) pass_nil)) h276 (flat_tup (flts_cons rfl (flts_cons rfl flts_nil))) (by kernel_rfl) ?_
        refine AtO.seg 5 (by kernel_rfl) ?_
        refine AtO.go (p' := [1, 1, 1, 0]) (F' := [(0, .agg [.sl (x0.1.map (eI .u8)), .sl (x0.2.map (eI .u8))]), (1, .box [.sl (x0.1.map (eI .u8)), .sl (x0.2.map (eI .u8))]), (3, .lit (.int .i64 r275.1)), (4, .lit (.int .i64 r275.2))]) 0 (by kernel_rfl) (by kernel_rfl) ?_
        refine Pt.reg (by kernel_rfl) ?_
        refine AtO.seg 2 (by kernel_rfl) ?_
        refine AtO.val (by kernel_rfl) (val_len (x := (.tmp 40)) (t := 40) (et := 5) (d := .sl (x0.1.map (eI .u8))) (e := (eI .u8)) (l := x0.1) (by kernel_rfl) (by kernel_rfl) elemsOf_sl (by kernel_rfl)) ?_
        refine AtO.seg 1 (by kernel_rfl) ?_
        refine AtO.go (p' := [1, 1, 1, 1, 0, 0]) (F' := [(0, .agg [.sl (x0.1.map (eI .u8)), .sl (x0.2.map (eI .u8))]), (1, .box [.sl (x0.1.map (eI .u8)), .sl (x0.2.map (eI .u8))]), (3, .lit (.int .i64 r275.1)), (4, .lit (.int .i64 r275.2)), (5, .lit (.int .i64 ((x0.1.length : Int))))]) 0 (by kernel_rfl) (by kernel_rfl) ?_
        refine Pt.reg (by kernel_rfl) ?_
        refine AtO.seg 1 (by kernel_rfl) ?_
        refine AtO.go (p' := [1, 1, 1, 1, 0, 1, 0]) (F' := [(0, .agg [.sl (x0.1.map (eI .u8)), .sl (x0.2.map (eI .u8))]), (1, .box [.sl (x0.1.map (eI .u8)), .sl (x0.2.map (eI .u8))]), (3, .lit (.int .i64 r275.1)), (4, .lit (.int .i64 r275.2)), (5, .lit (.int .i64 ((x0.1.length : Int)))), (6, .lit (.int .i64 0))]) 0 (by kernel_rfl) (by kernel_rfl) ?_
        exact h
  · have h := ite_f h (fls hc)
    refine AtO.seg 16 (by kernel_rfl) ?_
    refine AtO.go (p' := [1, 0, 1, 0, 0]) (F' := []) 1 (by kernel_rfl) (by kernel_rfl) ?_
    exact h
end drosslaw08_PartitionLeast
end Go.Own
