/- What the functions that the law reaches answer. No conditions. -/
import Derived.Test.YtjiphhbagdangabGreatDoorBase6
import Derived.Test.YtjiphhbagdangabGreatDoorOwn18
import Derived.Test.YtjiphhbagdangabGreatDoorBase2
import Derived.Test.YtjiphhbagdangabGreatDoorOwn24
import Derived.Test.YtjiphhbagdangabGreatDoorArmstrongHoldsLaw6
set_option linter.all false
namespace Go.Own
open Go.Proofs D
set_option maxRecDepth 100000
set_option maxHeartbeats 4000000
namespace drosslaw19_awake
def res (r : Bool) : D × List D := (.lit (.bool r), [])
def C  (r : Bool) : Prop := Ret env 6 [] (res r).1 (res r).2
end drosslaw19_awake
end Go.Own
namespace Go.Own
set_option maxRecDepth 1000000
theorem drosslaw19_awake.run : callN env 400 6 [] = some (.lit (.bool true), []) := by kernel_rfl
theorem drosslaw19_awake.spec : drosslaw19_awake.C true := Ret.of drosslaw19_awake.run
end Go.Own
namespace Go.Own
open Go.Proofs D
set_option maxRecDepth 100000
set_option maxHeartbeats 4000000
namespace drosslaw19_ArmstrongHolds
noncomputable def B : Code := (Tryz.f3.body).getD .skip
def W : List Nat := [0, 1, 2, 3, 4, 5, 6, 7, 8, 9, 10, 11, 23, 44]
def res (r : Bool) : D × List D := (.lit (.bool r), [])
def C (x0 : drossref09_Deps) (x1 : api_FD) (r : Bool) : Prop := Ret env 3 [.agg [.lit (.int .u8 x0.N), .sl (x0.L.map enc_drossref09_Dep)], .agg [.lit (.int .u32 x1.Lhs), .lit (.int .u32 x1.Rhs)]] (res r).1 (res r).2
def L1  (φ : Bool → Prop) : Prop := Pt env 3 W B [1, 1, 0, 1, 0, 0] [] (Lv env 3 Tryz.f3 2 res φ)
theorem L1_step  (φ : Bool → Prop) (h :
 ∃ r20 : Bool, drosslaw19_awake.C  r20 ∧
 φ r20) : L1  φ :=
 mIn <|
 mCal 1 h (fun _ h => h) fun r20 _ h =>
 mRet 2 h
theorem enter (x0 : drossref09_Deps) (x1 : api_FD) (φ : Bool → Prop) (h :
 ∃ r11 : Int × List api_FD × Bool, drossref09_Of.C x0 r11 ∧
 ∃ r12 : Bool, drosslaw19_awake.C  r12 ∧
 (if r12 = true then
 (if r11.2.2 = true then
 ∃ r13 : api_Table × Int, armstrong_Build.C r11.1 r11.2.1 r13 ∧
 (if r13.2 = 0 then
 ∃ r14 : Int, drossref03_Valid.C r13.1 r14 ∧
 (if r14 = 0 then
 (if (r13.1.Attrs.length : Int) = r11.1 then
 ∃ r15 : Int, drossref02_Full.C r11.1 r15 ∧
 ∃ r16 : Int, drossref02_Full.C r11.1 r16 ∧
 ∃ r17 : Bool × Int, armstrong_Exact.C r13.1 r11.2.1 r17 ∧
 ∃ r18 : Bool, drossref19_Holds.C r13.1 ((⟨(bAnd .u32 x1.Lhs r15), (bAnd .u32 x1.Rhs r16)⟩ : api_FD)) r18 ∧
 ∃ r19 : Bool, drossref09_Implies.C r11.2.1 ((⟨(bAnd .u32 x1.Lhs r15), (bAnd .u32 x1.Rhs r16)⟩ : api_FD)) r19 ∧
 (if r18 = r19 then
 (if r17.1 = true then
 φ ((r17.2 == 0))
 else
 φ false)
 else
 φ false)
 else
 φ false)
 else
 φ false)
 else
 φ false)
 else
 drosslaw19_ArmstrongHolds.L1  φ)
 else
 drosslaw19_ArmstrongHolds.L1  φ)) : ∃ r, φ r ∧ C x0 x1 r :=
 mEnt (fd := Tryz.f3) (body := B) (V := W) (res := res) <|
 mCal 7 h (fun _ h => h) (hf := (fun _ => clF_both)) fun r11 _ h =>
 mCalB 9 h (fun _ h => h) (fun _ h =>
 mAsk 2 h id fls (fun h =>
 mCalE 8 h (fun _ h => h) (fun r13 => cold_tup rfl (fcs_cons (freeze_agg (fcs_cons rfl (fcs_cons (freeze_ow (e := eS) (e' := eS) (fun _ => rfl) r13.1.Attrs) (fcs_cons (freeze_ow (e := enc_api_Row) (e' := enc_api_Row_2) (fun x => (fcs_cons rfl (fcs_cons (freeze_ow (e := enc_api_Value) (e' := enc_api_Value) (fun _ => rfl) x.Values) fcs_nil))) r13.1.Rows) fcs_nil)))) (fcs_cons rfl fcs_nil))) (hf := (fun _ => clF_flat (flat_tup (flts_cons (flat_agg (flts_cons rfl (flts_cons (flat_ow (e := eS) (fun _ => rfl)) (flts_cons (flat_ow (e := enc_api_Row) (fun _ => (flts_cons rfl (flts_cons (flat_ow (e := enc_api_Value) (fun _ => rfl)) flts_nil)))) flts_nil)))) (flts_cons rfl flts_nil))) rfl)) fun r13 _ h =>
 mAskN 9 h bne_t bne_f (fun h =>
 mRet 17 h) fun h =>
 mCal 2 h (fun _ h => h) fun r14 _ h =>
 mAskN 0 h bne_t bne_f (fun h =>
 mRet 13 h) fun h =>
 mLen 4 eS r13.1.Attrs <|
 mAskN 1 h bne_t bne_f (fun h =>
 mRet 6 h) fun h =>
 mLo 8 h (fun _ h => h) fun r15 _ h =>
 mLo 4 h (fun _ h => h) fun r16 _ h =>
 mCal 7 h (fun _ h => h) (hf := (fun _ => clF_flat (flat_tup (flts_cons rfl (flts_cons rfl flts_nil))) rfl)) fun r17 _ h =>
 mLo 9 h (fun _ h => h) fun r18 _ h =>
 mCal 2 h (fun _ h => h) fun r19 _ h =>
 mAsk 0 h bbeq_t bbeq_f (fun h =>
 mAsk 1 h id fls (fun h =>
 mRet 7 h) fun h =>
 mRet 7 h) fun h =>
 mRet 9 h) fun h =>
 mFin 4 h) fun _ h =>
 mFin 7 h
end drosslaw19_ArmstrongHolds
end Go.Own
