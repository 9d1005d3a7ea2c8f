/- What the functions that the law reaches answer. No conditions. -/
import Derived.Test.YtjiphhbagdangaaGreatDoorBase6
import Derived.Test.YtjiphhbagdangaaGreatDoorOwn18
import Derived.Test.YtjiphhbagdangaaGreatDoorBase2
import Derived.Test.YtjiphhbagdangaaGreatDoorArmstrongExtraLaw6
import Derived.Test.YtjiphhbagdangaaGreatDoorOwn24
set_option linter.all false
namespace Go.Own
open Go.Proofs D
set_option maxRecDepth 100000
set_option maxHeartbeats 4000000
namespace drosslaw19_ArmstrongExtra
noncomputable def B : Code := (Tryz.f3.body).getD .skip
def W : List Nat := [0, 1, 2, 4, 5, 6, 7, 8, 9, 10, 11, 12, 20]
def res (r : Bool) : D × List D := (.lit (.bool r), [])
def C (x0 : api_Table) (x1 : List api_FD) (r : Bool) : Prop := Ret env 3 [.agg [.lit (.string x0.Name), .sl (x0.Attrs.map eS), .sl (x0.Rows.map enc_api_Row)], .sl (x1.map enc_api_FD)] (res r).1 (res r).2
def L1  (φ : Bool → Prop) : Prop := Pt env 3 W B [1, 0, 1, 0, 0] [] (Lv env 3 Tryz.f3 2 res φ)
theorem L1_step  (φ : Bool → Prop) (h :
 ∃ r18 : Bool, drosslaw19_awake.C  r18 ∧
 φ r18) : L1  φ :=
 mIn <|
 mCal 1 h (fun _ h => h) fun r18 _ h =>
 mRet 2 h
theorem enter (x0 : api_Table) (x1 : List api_FD) (φ : Bool → Prop) (h :
 ∃ r10 : Bool, drosslaw19_awake.C  r10 ∧
 (if r10 = true then
 ∃ r11 : Bool, drosslaw19_small.C x0 x1 r11 ∧
 (if r11 = true then
 x1.length * 8 ≤ 140737488355328 ∧
 ∃ r13 : api_FD × Int, armstrong_Extra.C x0 x1 r13 ∧
 ∃ r14 : api_FD × Int, drossref19_Extra.C x0 x1 r14 ∧
 x1.length * 8 ≤ 140737488355328 ∧
 ∃ r16 : api_FD × Int, armstrong_Broken.C x0 x1 r16 ∧
 ∃ r17 : api_FD × Int, drossref19_Broken.C x0 x1 r17 ∧
 (if (and (r13.1.Lhs == r14.1.Lhs) (and (r13.1.Rhs == r14.1.Rhs) true)) = true then
 (if r13.2 = r14.2 then
 (if (and (r16.1.Lhs == r17.1.Lhs) (and (r16.1.Rhs == r17.1.Rhs) true)) = true then
 φ ((r16.2 == r17.2))
 else
 φ false)
 else
 φ false)
 else
 φ false)
 else
 drosslaw19_ArmstrongExtra.L1  φ)
 else
 drosslaw19_ArmstrongExtra.L1  φ)) : ∃ r, φ r ∧ C x0 x1 r :=
 mEnt (fd := Tryz.f3) (body := B) (V := W) (res := res) <|
 mCalB 5 h (fun _ h => h) (fun _ h =>
 mCalB 4 h (fun _ h => h) (fun _ h =>
 h.elim fun h12 h =>
 mLoP 8 (show Ret env 8 [.sl (x1.map enc_api_FD)] (.own (x1.map enc_api_FD)) [] from ret_clone (k := 2) (b := 8) (e := enc_api_FD) (l := x1) (by kernel_rfl) (fun _ => rfl) h12) (hf := (loF_flat (flat_ow (e := enc_api_FD) (fun _ => rfl)))) <|
 mLo 0 h (fun _ h => h) (hr := by exact (pr_k (pr_snap (snap_ow (s := 25) (ps := []) (l := x1) (e := enc_api_FD) (e' := enc_api_FD) (fun _ => rfl) (by kernel_rfl)) pr_nil))) (hf := (fun _ => loF_flat (flat_tup (flts_cons (flat_agg (flts_cons rfl (flts_cons rfl flts_nil))) (flts_cons rfl flts_nil))))) fun r13 _ h =>
 mCal 10 h (fun _ h => h) (hf := (fun _ => clF_flat (flat_tup (flts_cons (flat_agg (flts_cons rfl (flts_cons rfl flts_nil))) (flts_cons rfl flts_nil))) rfl)) fun r14 _ h =>
 h.elim fun h15 h =>
 mLoP 10 (show Ret env 8 [.sl (x1.map enc_api_FD)] (.own (x1.map enc_api_FD)) [] from ret_clone (k := 2) (b := 8) (e := enc_api_FD) (l := x1) (by kernel_rfl) (fun _ => rfl) h15) (hf := (loF_flat (flat_ow (e := enc_api_FD) (fun _ => rfl)))) <|
 mLo 0 h (fun _ h => h) (hr := by exact (pr_k (pr_snap (snap_ow (s := 38) (ps := []) (l := x1) (e := enc_api_FD) (e' := enc_api_FD) (fun _ => rfl) (by kernel_rfl)) pr_nil))) (hf := (fun _ => loF_flat (flat_tup (flts_cons (flat_agg (flts_cons rfl (flts_cons rfl flts_nil))) (flts_cons rfl flts_nil))))) fun r16 _ h =>
 mCal 10 h (fun _ h => h) (hf := (fun _ => clF_flat (flat_tup (flts_cons (flat_agg (flts_cons rfl (flts_cons rfl flts_nil))) (flts_cons rfl flts_nil))) rfl)) fun r17 _ h =>
 mBiA 10 h id fls (hd := (bin_aeq (t := 32) (xs := [.lit (.int .u32 r13.1.Lhs), .lit (.int .u32 r13.1.Rhs)]) (ys := [.lit (.int .u32 r14.1.Lhs), .lit (.int .u32 r14.1.Rhs)]) (l := [(r13.1.Lhs == r14.1.Lhs), (r13.1.Rhs == r14.1.Rhs)]))) (fun h =>
 mAsk 3 h beq_t beq_f (fun h =>
 mBiA 4 h id fls (hd := (bin_aeq (t := 32) (xs := [.lit (.int .u32 r16.1.Lhs), .lit (.int .u32 r16.1.Rhs)]) (ys := [.lit (.int .u32 r17.1.Lhs), .lit (.int .u32 r17.1.Rhs)]) (l := [(r16.1.Lhs == r17.1.Lhs), (r16.1.Rhs == r17.1.Rhs)]))) (fun h =>
 mRet 8 h) fun h =>
 mRet 8 h) fun h =>
 mRet 13 h) fun h =>
 mRet 17 h) fun _ h =>
 mFin 4 h) fun _ h =>
 mFin 9 h
end drosslaw19_ArmstrongExtra
end Go.Own
