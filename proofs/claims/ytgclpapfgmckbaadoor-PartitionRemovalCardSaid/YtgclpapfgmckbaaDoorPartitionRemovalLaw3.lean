/- What the functions that the law reaches answer. No conditions. -/
import Derived.Test.YtgclpapfgmckbaaDoorBase6
import Derived.Test.YtgclpapfgmckbaaDoorOwn15
import Derived.Test.YtgclpapfgmckbaaDoorBase2
import Derived.Test.YtgclpapfgmckbaaDoorPartitionRemovalLaw2
set_option linter.all false

namespace Go.Own
open Go.Proofs D
set_option maxRecDepth 100000
set_option maxHeartbeats 4000000
namespace drosslaw08_PartitionRemoval
noncomputable def B : Code := (Tryd.f7.body).getD .skip
def W : List Nat := [0, 1, 2, 3, 4, 5, 6, 7, 8, 20]
def res (r : Bool) : D × List D := (.lit (.bool r), [])
def C (x0 : api_Partition) (x1 : api_Partition) (r : Bool) : Prop := Ret env 7 [.agg [.lit (.int .i64 x0.Rows), .sl (x0.Classes.map (eSl (eI .i64)))], .agg [.lit (.int .i64 x1.Rows), .sl (x1.Classes.map (eSl (eI .i64)))]] (res r).1 (res r).2
def L1  (φ : Bool → Prop) : Prop := Pt env 7 W B [1, 0, 1, 0, 0] [] (Lv env 7 Tryd.f7 2 res φ)
theorem L1_step  (φ : Bool → Prop) (h :
    ∃ r11 : Bool, drosslaw08_awake.C  r11 ∧
    φ r11) : L1  φ := by
  unfold L1
  refine Pt.reg (by kernel_rfl) ?_
  obtain ⟨r11, h12, h⟩ := h
  refine AtO.call0 (x := (.func 11)) (g := 11) (caps := []) (agl := []) (ds := []) (r := .lit (.bool r11)) (r' := .lit (.bool r11)) (ms := []) (by kernel_rfl) (by kernel_rfl) (by kernel_rfl) (by kernel_rfl) (by kernel_rfl) (by kernel_rfl) pass_nil h12 rfl (by kernel_rfl) ?_
  refine AtO.seg 1 (by kernel_rfl) ?_
  refine AtO.done (p' := [1, 0, 1, 0, 1]) (F' := [(4, .lit (.bool r11))]) (by kernel_rfl) (by kernel_rfl) (by kernel_rfl) ?_
  exact Pt.ret r11 (by kernel_rfl) (by kernel_rfl) h
theorem enter (x0 : api_Partition) (x1 : api_Partition) (φ : Bool → Prop) (h :
    ∃ r1 : Bool, drosslaw08_awake.C  r1 ∧
    (if r1 = true then
      ∃ r3 : Bool, drossref08_Few.C x0 r3 ∧
      (if r3 = true then
        ∃ r5 : Bool, drossref08_Few.C x1 r5 ∧
        (if r5 = true then
          ∃ r7 : Int × Int, partition_Removal.C x0 x1 r7 ∧
          ∃ r9 : Int × Int, drossref08_Removal.C x0 x1 r9 ∧
          (if r7.1 = r9.1 then
            φ ((r7.2 == r9.2))
          else
            φ false)
        else
          drosslaw08_PartitionRemoval.L1  φ)
      else
        drosslaw08_PartitionRemoval.L1  φ)
    else
      drosslaw08_PartitionRemoval.L1  φ)) : ∃ r, φ r ∧ C x0 x1 r := by
  refine Ret.of_at (E := env) (f := 7) (fd := Tryd.f7) (body := B) (p := [0]) (V := W) (F := [(0, .agg [.lit (.int .i64 x0.Rows), .sl (x0.Classes.map (eSl (eI .i64)))]), (1, .agg [.lit (.int .i64 x1.Rows), .sl (x1.Classes.map (eSl (eI .i64)))]), (2, .undef), (3, .undef), (4, .undef), (5, .undef), (6, .undef), (7, .undef), (8, .undef), (20, .undef)]) (res := res) (φ := φ) (ds := [.agg [.lit (.int .i64 x0.Rows), .sl (x0.Classes.map (eSl (eI .i64)))], .agg [.lit (.int .i64 x1.Rows), .sl (x1.Classes.map (eSl (eI .i64)))]]) (by kernel_rfl) (by kernel_rfl) (by kernel_rfl) ⟨Nat.le_of_ble_eq_true (by kernel_rfl), Nat.le_of_ble_eq_true (by kernel_rfl)⟩ (by kernel_rfl) (by kernel_rfl) (by kernel_rfl) ?_
  refine Pt.reg (by kernel_rfl) ?_
  refine AtO.seg 3 (by kernel_rfl) ?_
  refine AtO.done (p' := [1, 0, 0]) (F' := [(0, .agg [.lit (.int .i64 x0.Rows), .sl (x0.Classes.map (eSl (eI .i64)))]), (1, .agg [.lit (.int .i64 x1.Rows), .sl (x1.Classes.map (eSl (eI .i64)))]), (2, .box [.lit (.int .i64 x0.Rows), .sl (x0.Classes.map (eSl (eI .i64)))]), (3, .box [.lit (.int .i64 x1.Rows), .sl (x1.Classes.map (eSl (eI .i64)))])]) (by kernel_rfl) (by kernel_rfl) (by kernel_rfl) ?_
  refine Pt.reg (by kernel_rfl) ?_
  obtain ⟨r1, h2, h⟩ := h
  refine AtO.call0 (x := (.func 11)) (g := 11) (caps := []) (agl := []) (ds := []) (r := .lit (.bool r1)) (r' := .lit (.bool r1)) (ms := []) (by kernel_rfl) (by kernel_rfl) (by kernel_rfl) (by kernel_rfl) (by kernel_rfl) (by kernel_rfl) pass_nil h2 rfl (by kernel_rfl) ?_
  refine AtO.putb (fun hc => ?_) (fun hc => ?_)
  · have h := ite_t h (id hc)
    obtain ⟨r3, h4, h⟩ := h
    refine AtO.seg 3 (by kernel_rfl) ?_
    refine AtO.call0 (x := (.func 22)) (g := 22) (caps := []) (agl := [.opn (.tmp 12)]) (ds := [.agg [.lit (.int .i64 x0.Rows), .sl (x0.Classes.map (eSl (eI .i64)))]]) (r := .lit (.bool r3)) (r' := .lit (.bool r3)) (ms := [none]) (by kernel_rfl) (by kernel_rfl) (by kernel_rfl) (by kernel_rfl) (by kernel_rfl) (by kernel_rfl) (pass_snap (a := .opn (.tmp 12)) (d0 := .agg [.lit (.int .i64 x0.Rows), .sl (x0.Classes.map (eSl (eI .i64)))]) (d := .agg [.lit (.int .i64 x0.Rows), .sl (x0.Classes.map (eSl (eI .i64)))]) (by kernel_rfl) (by kernel_rfl) (by kernel_rfl) pass_nil) h4 rfl (by kernel_rfl) ?_
    refine AtO.putb (fun hc => ?_) (fun hc => ?_)
    · have h := ite_t h (id hc)
      obtain ⟨r5, h6, h⟩ := h
      refine AtO.seg 4 (by kernel_rfl) ?_
      refine AtO.call0 (x := (.func 22)) (g := 22) (caps := []) (agl := [.opn (.tmp 17)]) (ds := [.agg [.lit (.int .i64 x1.Rows), .sl (x1.Classes.map (eSl (eI .i64)))]]) (r := .lit (.bool r5)) (r' := .lit (.bool r5)) (ms := [none]) (by kernel_rfl) (by kernel_rfl) (by kernel_rfl) (by kernel_rfl) (by kernel_rfl) (by kernel_rfl) (pass_snap (a := .opn (.tmp 17)) (d0 := .agg [.lit (.int .i64 x1.Rows), .sl (x1.Classes.map (eSl (eI .i64)))]) (d := .agg [.lit (.int .i64 x1.Rows), .sl (x1.Classes.map (eSl (eI .i64)))]) (by kernel_rfl) (by kernel_rfl) (by kernel_rfl) pass_nil) h6 rfl (by kernel_rfl) ?_
      refine AtO.putb (fun hc => ?_) (fun hc => ?_)
      · have h := ite_t h (id hc)
        refine AtO.seg 2 (by kernel_rfl) ?_
        refine AtO.done (p' := [1, 0, 1]) (F' := [(0, .agg [.lit (.int .i64 x0.Rows), .sl (x0.Classes.map (eSl (eI .i64)))]), (1, .agg [.lit (.int .i64 x1.Rows), .sl (x1.Classes.map (eSl (eI .i64)))]), (2, .box [.lit (.int .i64 x0.Rows), .sl (x0.Classes.map (eSl (eI .i64)))]), (3, .box [.lit (.int .i64 x1.Rows), .sl (x1.Classes.map (eSl (eI .i64)))]), (20, .lit (.bool false))]) (by kernel_rfl) (by kernel_rfl) (by kernel_rfl) ?_
        refine Pt.cond_f (p' := [1, 0, 1, 1]) (F' := [(0, .agg [.lit (.int .i64 x0.Rows), .sl (x0.Classes.map (eSl (eI .i64)))]), (1, .agg [.lit (.int .i64 x1.Rows), .sl (x1.Classes.map (eSl (eI .i64)))]), (2, .box [.lit (.int .i64 x0.Rows), .sl (x0.Classes.map (eSl (eI .i64)))]), (3, .box [.lit (.int .i64 x1.Rows), .sl (x1.Classes.map (eSl (eI .i64)))])]) (y := (.tmp 20)) (by kernel_rfl) (by kernel_rfl) (by kernel_rfl) (by kernel_rfl) ?_
        refine Pt.skip (p' := [1, 1, 0]) (by kernel_rfl) (by kernel_rfl) ?_
        refine Pt.reg (by kernel_rfl) ?_
        obtain ⟨r7, h8, h⟩ := h
        refine AtO.seg 2 (by kernel_rfl) ?_
        refine AtO.call0 (x := (.func 23)) (g := 23) (caps := []) (agl := [.opn (.tmp 23), .opn (.tmp 24)]) (ds := [.agg [.lit (.int .i64 x0.Rows), .sl (x0.Classes.map (eSl (eI .i64)))], .agg [.lit (.int .i64 x1.Rows), .sl (x1.Classes.map (eSl (eI .i64)))]]) (r := .tup [.lit (.int .i64 r7.1), .lit (.int .i64 r7.2)]) (r' := .tup [.lit (.int .i64 r7.1), .lit (.int .i64 r7.2)]) (ms := [none, none]) (by kernel_rfl) (by kernel_rfl) (by kernel_rfl) (by kernel_rfl) (by kernel_rfl) (by kernel_rfl) (pass_snap (a := .opn (.tmp 23)) (d0 := .agg [.lit (.int .i64 x0.Rows), .sl (x0.Classes.map (eSl (eI .i64)))]) (d := .agg [.lit (.int .i64 x0.Rows), .sl (x0.Classes.map (eSl (eI .i64)))]) (by kernel_rfl) (by kernel_rfl) (by kernel_rfl) (pass_snap (a := .opn (.tmp 24)) (d0 := .agg [.lit (.int .i64 x1.Rows), .sl (x1.Classes.map (eSl (eI .i64)))]) (d := .agg [.lit (.int .i64 x1.Rows), .sl (x1.Classes.map (eSl (eI .i64)))]) (by kernel_rfl) (by kernel_rfl) (by kernel_rfl) pass_nil)) h8 (flat_tup (flts_cons rfl (flts_cons rfl flts_nil))) (by kernel_rfl) ?_
        refine AtO.seg 5 (by kernel_rfl) ?_
        refine AtO.done (p' := [1, 1, 1, 0]) (F' := [(0, .agg [.lit (.int .i64 x0.Rows), .sl (x0.Classes.map (eSl (eI .i64)))]), (1, .agg [.lit (.int .i64 x1.Rows), .sl (x1.Classes.map (eSl (eI .i64)))]), (2, .box [.lit (.int .i64 x0.Rows), .sl (x0.Classes.map (eSl (eI .i64)))]), (3, .box [.lit (.int .i64 x1.Rows), .sl (x1.Classes.map (eSl (eI .i64)))]), (5, .lit (.int .i64 r7.1)), (6, .lit (.int .i64 r7.2))]) (by kernel_rfl) (by kernel_rfl) (by kernel_rfl) ?_
        refine Pt.reg (by kernel_rfl) ?_
        obtain ⟨r9, h10, h⟩ := h
        refine AtO.seg 2 (by kernel_rfl) ?_
        refine AtO.call0 (x := (.func 24)) (g := 24) (caps := []) (agl := [.opn (.tmp 29), .opn (.tmp 30)]) (ds := [.agg [.lit (.int .i64 x0.Rows), .sl (x0.Classes.map (eSl (eI .i64)))], .agg [.lit (.int .i64 x1.Rows), .sl (x1.Classes.map (eSl (eI .i64)))]]) (r := .tup [.lit (.int .i64 r9.1), .lit (.int .i64 r9.2)]) (r' := .tup [.lit (.int .i64 r9.1), .lit (.int .i64 r9.2)]) (ms := [none, none]) (by kernel_rfl) (by kernel_rfl) (by kernel_rfl) (by kernel_rfl) (by kernel_rfl) (by kernel_rfl) (pass_snap (a := .opn (.tmp 29)) (d0 := .agg [.lit (.int .i64 x0.Rows), .sl (x0.Classes.map (eSl (eI .i64)))]) (d := .agg [.lit (.int .i64 x0.Rows), .sl (x0.Classes.map (eSl (eI .i64)))]) (by kernel_rfl) (by kernel_rfl) (by kernel_rfl) (pass_snap (a := .opn (.tmp 30)) (d0 := .agg [.lit (.int .i64 x1.Rows), .sl (x1.Classes.map (eSl (eI .i64)))]) (d := .agg [.lit (.int .i64 x1.Rows), .sl (x1.Classes.map (eSl (eI .i64)))]) (by kernel_rfl) (by kernel_rfl) (by kernel_rfl) pass_nil)) h10 (flat_tup (flts_cons rfl (flts_cons rfl flts_nil))) (by kernel_rfl) ?_
        refine AtO.seg 5 (by kernel_rfl) ?_
        refine AtO.done (p' := [1, 1, 1, 1, 0]) (F' := [(5, .lit (.int .i64 r7.1)), (6, .lit (.int .i64 r7.2)), (7, .lit (.int .i64 r9.1)), (8, .lit (.int .i64 r9.2))]) (by kernel_rfl) (by kernel_rfl) (by kernel_rfl) ?_
        refine Pt.reg (by kernel_rfl) ?_
        refine AtO.seg 2 (by kernel_rfl) ?_
        refine AtO.bool (b := (r7.1 == r9.1)) (by kernel_rfl) (by kernel_rfl) (fun hc => ?_) (fun hc => ?_)
        · have h := ite_t h (beq_t hc)
          refine AtO.seg 6 (by kernel_rfl) ?_
          refine AtO.done (p' := [1, 1, 1, 1, 1]) (F' := [(4, .lit (.bool ((r7.2 == r9.2))))]) (by kernel_rfl) (by kernel_rfl) (by kernel_rfl) ?_
          exact Pt.ret ((r7.2 == r9.2)) (by kernel_rfl) (by kernel_rfl) h
        · have h := ite_f h (beq_f hc)
          refine AtO.seg 6 (by kernel_rfl) ?_
          refine AtO.done (p' := [1, 1, 1, 1, 1]) (F' := [(4, .lit (.bool false))]) (by kernel_rfl) (by kernel_rfl) (by kernel_rfl) ?_
          exact Pt.ret false (by kernel_rfl) (by kernel_rfl) h
      · have h := ite_f h (fls hc)
        refine AtO.seg 2 (by kernel_rfl) ?_
        refine AtO.done (p' := [1, 0, 1]) (F' := [(0, .agg [.lit (.int .i64 x0.Rows), .sl (x0.Classes.map (eSl (eI .i64)))]), (1, .agg [.lit (.int .i64 x1.Rows), .sl (x1.Classes.map (eSl (eI .i64)))]), (2, .box [.lit (.int .i64 x0.Rows), .sl (x0.Classes.map (eSl (eI .i64)))]), (3, .box [.lit (.int .i64 x1.Rows), .sl (x1.Classes.map (eSl (eI .i64)))]), (20, .lit (.bool true))]) (by kernel_rfl) (by kernel_rfl) (by kernel_rfl) ?_
        refine Pt.cond_t (p' := [1, 0, 1, 0, 0]) (F' := []) (y := (.tmp 20)) (by kernel_rfl) (by kernel_rfl) (by kernel_rfl) (by kernel_rfl) ?_
        exact h
    · have h := ite_f h (fls hc)
      refine AtO.seg 7 (by kernel_rfl) ?_
      refine AtO.done (p' := [1, 0, 1]) (F' := [(0, .agg [.lit (.int .i64 x0.Rows), .sl (x0.Classes.map (eSl (eI .i64)))]), (1, .agg [.lit (.int .i64 x1.Rows), .sl (x1.Classes.map (eSl (eI .i64)))]), (2, .box [.lit (.int .i64 x0.Rows), .sl (x0.Classes.map (eSl (eI .i64)))]), (3, .box [.lit (.int .i64 x1.Rows), .sl (x1.Classes.map (eSl (eI .i64)))]), (20, .lit (.bool true))]) (by kernel_rfl) (by kernel_rfl) (by kernel_rfl) ?_
      refine Pt.cond_t (p' := [1, 0, 1, 0, 0]) (F' := []) (y := (.tmp 20)) (by kernel_rfl) (by kernel_rfl) (by kernel_rfl) (by kernel_rfl) ?_
      exact h
  · have h := ite_f h (fls hc)
    refine AtO.seg 11 (by kernel_rfl) ?_
    refine AtO.done (p' := [1, 0, 1]) (F' := [(0, .agg [.lit (.int .i64 x0.Rows), .sl (x0.Classes.map (eSl (eI .i64)))]), (1, .agg [.lit (.int .i64 x1.Rows), .sl (x1.Classes.map (eSl (eI .i64)))]), (2, .box [.lit (.int .i64 x0.Rows), .sl (x0.Classes.map (eSl (eI .i64)))]), (3, .box [.lit (.int .i64 x1.Rows), .sl (x1.Classes.map (eSl (eI .i64)))]), (20, .lit (.bool true))]) (by kernel_rfl) (by kernel_rfl) (by kernel_rfl) ?_
    refine Pt.cond_t (p' := [1, 0, 1, 0, 0]) (F' := []) (y := (.tmp 20)) (by kernel_rfl) (by kernel_rfl) (by kernel_rfl) (by kernel_rfl) ?_
    exact h
end drosslaw08_PartitionRemoval
end Go.Own
