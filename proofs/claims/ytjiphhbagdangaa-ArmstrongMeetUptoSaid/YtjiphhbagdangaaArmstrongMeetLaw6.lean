/- What the functions that the law reaches answer. No conditions. -/
import Derived.Test.YtjiphhbagdangaaBase3
import Derived.Test.YtjiphhbagdangaaOwn18
import Derived.Test.YtjiphhbagdangaaBase1
import Derived.Test.YtjiphhbagdangaaOwn24
set_option linter.all false

namespace Go.Own
open Go.Proofs D
set_option maxRecDepth 100000
set_option maxHeartbeats 4000000
namespace drossref02_Sub
noncomputable def B : Code := (Try.f23.body).getD .skip
def W : List Nat := [0, 1, 4]
def res (r : Bool) : D × List D := (.lit (.bool r), [])
def C (x0 : Int) (x1 : Int) (r : Bool) : Prop := Ret env 23 [.lit (.int .u32 x0), .lit (.int .u32 x1)] (res r).1 (res r).2
theorem enter (x0 : Int) (x1 : Int) (φ : Bool → Prop) (h :
    φ (((bAnd .u32 x0 x1) == x0))) : ∃ r, φ r ∧ C x0 x1 r :=
 mEnt (fd := Try.f23) (body := B) (V := W) (res := res) <|
 mRet 11 h
end drossref02_Sub
end Go.Own

namespace Go.Own
open Go.Proofs D
set_option maxRecDepth 100000
set_option maxHeartbeats 4000000
namespace drossref02_Full
noncomputable def B : Code := (Try.f22.body).getD .skip
def W : List Nat := [0, 2, 3, 4, 11]
def res (r : Int) : D × List D := (.lit (.int .u32 r), [])
def C (x0 : Int) (r : Int) : Prop := Ret env 22 [.lit (.int .i64 x0)] (res r).1 (res r).2
def L1 (x0 : Int) (y3_L1 : Int) (y4_L1 : Int) (φ : Int → Prop) : Prop := Pt env 22 W B [1, 1, 0, 1, 0] [(0, .lit (.int .i64 x0)), (3, .lit (.int .u32 y3_L1)), (4, .lit (.int .i64 y4_L1))] (Lv env 22 Try.f22 1 res φ)
theorem L1_step (x0 : Int) (y3_L1 : Int) (y4_L1 : Int) (φ : Int → Prop) (h :
    (if y4_L1 < x0 then
      (if y4_L1 < 32 then
        0 ≤ y4_L1 ∧
        drossref02_Full.L1 x0 ((bOr .u32 y3_L1 (shlw .u32 1 y4_L1))) ((IntKind.wrap .i64 (y4_L1 + 1))) φ
      else
        φ y3_L1)
    else
      φ y3_L1)) : L1 x0 y3_L1 y4_L1 φ :=
 mIn <|
 mAsk 4 h dT dF (fun h =>
 mAsk 2 h dT dF (fun h =>
 h.elim fun h1 h =>
 mBi 7 (bin_shl (t := 31) (q := .u32) (q' := .i64) (i1 := 1) h1) <|
 mFin 8 h) fun h =>
 mRet 8 h) fun h =>
 mRet 11 h
theorem enter (x0 : Int) (φ : Int → Prop) (h :
    drossref02_Full.L1 x0 0 0 φ) : ∃ r, φ r ∧ C x0 r :=
 mEnt (fd := Try.f22) (body := B) (V := W) (res := res) <|
 mFin 9 h
end drossref02_Full
end Go.Own

namespace Go.Own
open Go.Proofs D
set_option maxRecDepth 100000
set_option maxHeartbeats 4000000
namespace closure_Valid
noncomputable def B : Code := (Try.f41.body).getD .skip
def W : List Nat := [0, 1, 4, 6, 12, 15, 16, 17, 18, 19, 29]
def res (r : Int) : D × List D := (.lit (.int .i64 r), [])
def C (x0 : Int) (x1 : List api_FD) (r : Int) : Prop := Ret env 41 [.lit (.int .i64 x0), .sl (x1.map enc_api_FD)] (res r).1 (res r).2
def L1 (x0 : Int) (x1 : List api_FD) (y18_L1 : Int) (φ : Int → Prop) : Prop := Pt env 41 W B [1, 1, 1, 0, 1, 0] [(0, .lit (.int .i64 x0)), (1, .sl (x1.map enc_api_FD)), (16, .sl (x1.map enc_api_FD)), (17, .lit (.int .i64 ((x1.length : Int)))), (18, .lit (.int .i64 y18_L1))] (Lv env 41 Try.f41 2 res φ)
theorem L1_step (x0 : Int) (x1 : List api_FD) (y18_L1 : Int) (φ : Int → Prop) (h :
    (if y18_L1 < (x1.length : Int) then
      ∃ a1, lget x1 y18_L1 = some a1 ∧
      0 ≤ x0 ∧
      (if (shrw .u32 (bOr .u32 a1.Lhs a1.Rhs) x0) = 0 then
        closure_Valid.L1 x0 x1 ((IntKind.wrap .i64 (y18_L1 + 1))) φ
      else
        φ 1)
    else
      φ 0)) : L1 x0 x1 y18_L1 φ :=
 mIn <|
 mAsk 2 h dT dF (fun h =>
 mIx 4 enc_api_FD h fun a1 h2 h =>
 h.elim fun h3 h =>
 mBi 11 (bin_shr (t := 31) (q := .u32) (q' := .i64) (i1 := (bOr .u32 a1.Lhs a1.Rhs)) h3) <|
 mAskN 0 h bne_t bne_f (fun h =>
 mRet 5 h) fun h =>
 mFin 7 h) fun h =>
 mRet 6 h
theorem enter (x0 : Int) (x1 : List api_FD) (φ : Int → Prop) (h :
    (if x0 < 0 then
      φ 7
    else
      (if 16 < x0 then
        φ 7
      else
        (if 64 < (x1.length : Int) then
          φ 3
        else
          closure_Valid.L1 x0 x1 0 φ)))) : ∃ r, φ r ∧ C x0 x1 r :=
 mEnt (fd := Try.f41) (body := B) (V := W) (res := res) <|
 mAsk 5 h dT dF (fun h =>
 mRet 9 h) fun h =>
 mAsk 2 h dT dF (fun h =>
 mRet 6 h) fun h =>
 mLen 6 enc_api_FD x1 <|
 mAsk 0 h dT dF (fun h =>
 mRet 5 h) fun h =>
 mLen 5 enc_api_FD x1 <|
 mFin 2 h
end closure_Valid
end Go.Own

namespace Go.Own
open Go.Proofs D
set_option maxRecDepth 100000
set_option maxHeartbeats 4000000
namespace drossref09_Valid
noncomputable def B : Code := (Try.f44.body).getD .skip
def W : List Nat := [0, 1, 4, 5, 6, 12, 15, 21, 41]
def res (r : Int) : D × List D := (.lit (.int .i64 r), [])
def C (x0 : Int) (x1 : List api_FD) (r : Int) : Prop := Ret env 44 [.lit (.int .i64 x0), .sl (x1.map enc_api_FD)] (res r).1 (res r).2
def L1 (x1 : List api_FD) (r1 : Int) (y6_L1 : Int) (φ : Int → Prop) : Prop := Pt env 44 W B [1, 1, 1, 1, 0, 1, 0] [(1, .sl (x1.map enc_api_FD)), (5, .lit (.int .u32 r1)), (6, .lit (.int .i64 y6_L1))] (Lv env 44 Try.f44 2 res φ)
theorem L1_step (x1 : List api_FD) (r1 : Int) (y6_L1 : Int) (φ : Int → Prop) (h :
    (if y6_L1 < (x1.length : Int) then
      ∃ a2, lget x1 y6_L1 = some a2 ∧
      ∃ r4 : Bool, drossref02_Sub.C a2.Lhs r1 r4 ∧
      (if r4 = true then
        ∃ r5 : Bool, drossref02_Sub.C a2.Rhs r1 r5 ∧
        (if r5 = true then
          drossref09_Valid.L1 x1 r1 ((IntKind.wrap .i64 (y6_L1 + 1))) φ
        else
          φ 1)
      else
        φ 1)
    else
      φ 0)) : L1 x1 r1 y6_L1 φ :=
 mIn <|
 mLen 4 enc_api_FD x1 <|
 mAsk 0 h dT dF (fun h =>
 mIx 6 enc_api_FD h fun a2 h3 h =>
 mCalB 3 h (fun _ h => h) (fun _ h =>
 mIxf 4 enc_api_FD h3 <|
 mCalB 3 h (fun _ h => h) (fun _ h =>
 mFin 10 h) fun _ h =>
 mRet 7 h) fun _ h =>
 mRet 16 h) fun h =>
 mRet 6 h
theorem enter (x0 : Int) (x1 : List api_FD) (φ : Int → Prop) (h :
    (if x0 < 0 then
      φ 7
    else
      (if 16 < x0 then
        φ 7
      else
        (if 64 < (x1.length : Int) then
          φ 3
        else
          ∃ r1 : Int, drossref02_Full.C x0 r1 ∧
          drossref09_Valid.L1 x1 r1 0 φ)))) : ∃ r, φ r ∧ C x0 x1 r :=
 mEnt (fd := Try.f44) (body := B) (V := W) (res := res) <|
 mAsk 5 h dT dF (fun h =>
 mRet 9 h) fun h =>
 mAsk 2 h dT dF (fun h =>
 mRet 6 h) fun h =>
 mLen 6 enc_api_FD x1 <|
 mAsk 0 h dT dF (fun h =>
 mRet 5 h) fun h =>
 mCal 5 h (fun _ h => h) fun r1 _ h =>
 mFin 5 h
end drossref09_Valid
end Go.Own

namespace Go.Own
open Go.Proofs D
set_option maxRecDepth 100000
set_option maxHeartbeats 4000000
namespace math_bits_OnesCount32
noncomputable def B : Code := (Try.f59.body).getD .skip
def W : List Nat := [0, 2]
def res (r : Int) : D × List D := (.lit (.int .i64 r), [])
def C (x0 : Int) (r : Int) : Prop := Ret env 59 [.lit (.int .u32 x0)] (res r).1 (res r).2
theorem enter (x0 : Int) (φ : Int → Prop) (h :
    ∃ b1, ((0 : Int) ≤ (shrw .u32 x0 24) ∧ ((⟨#[0, 1, 1, 2, 1, 2, 2, 3, 1, 2, 2, 3, 2, 3, 3, 4, 1, 2, 2, 3, 2, 3, 3, 4, 2, 3, 3, 4, 3, 4, 4, 5, 1, 2, 2, 3, 2, 3, 3, 4, 2, 3, 3, 4, 3, 4, 4, 5, 2, 3, 3, 4, 3, 4, 4, 5, 3, 4, 4, 5, 4, 5, 5, 6, 1, 2, 2, 3, 2, 3, 3, 4, 2, 3, 3, 4, 3, 4, 4, 5, 2, 3, 3, 4, 3, 4, 4, 5, 3, 4, 4, 5, 4, 5, 5, 6, 2, 3, 3, 4, 3, 4, 4, 5, 3, 4, 4, 5, 4, 5, 5, 6, 3, 4, 4, 5, 4, 5, 5, 6, 4, 5, 5, 6, 5, 6, 6, 7, 1, 2, 2, 3, 2, 3, 3, 4, 2, 3, 3, 4, 3, 4, 4, 5, 2, 3, 3, 4, 3, 4, 4, 5, 3, 4, 4, 5, 4, 5, 5, 6, 2, 3, 3, 4, 3, 4, 4, 5, 3, 4, 4, 5, 4, 5, 5, 6, 3, 4, 4, 5, 4, 5, 5, 6, 4, 5, 5, 6, 5, 6, 6, 7, 2, 3, 3, 4, 3, 4, 4, 5, 3, 4, 4, 5, 4, 5, 5, 6, 3, 4, 4, 5, 4, 5, 5, 6, 4, 5, 5, 6, 5, 6, 6, 7, 3, 4, 4, 5, 4, 5, 5, 6, 4, 5, 5, 6, 5, 6, 6, 7, 4, 5, 5, 6, 5, 6, 6, 7, 5, 6, 6, 7, 6, 7, 7, 8]⟩ : ByteArray))[((shrw .u32 x0 24)).toNat]? = some b1) ∧
    ∃ b4, ((0 : Int) ≤ (bAnd .u32 (shrw .u32 x0 16) 255) ∧ ((⟨#[0, 1, 1, 2, 1, 2, 2, 3, 1, 2, 2, 3, 2, 3, 3, 4, 1, 2, 2, 3, 2, 3, 3, 4, 2, 3, 3, 4, 3, 4, 4, 5, 1, 2, 2, 3, 2, 3, 3, 4, 2, 3, 3, 4, 3, 4, 4, 5, 2, 3, 3, 4, 3, 4, 4, 5, 3, 4, 4, 5, 4, 5, 5, 6, 1, 2, 2, 3, 2, 3, 3, 4, 2, 3, 3, 4, 3, 4, 4, 5, 2, 3, 3, 4, 3, 4, 4, 5, 3, 4, 4, 5, 4, 5, 5, 6, 2, 3, 3, 4, 3, 4, 4, 5, 3, 4, 4, 5, 4, 5, 5, 6, 3, 4, 4, 5, 4, 5, 5, 6, 4, 5, 5, 6, 5, 6, 6, 7, 1, 2, 2, 3, 2, 3, 3, 4, 2, 3, 3, 4, 3, 4, 4, 5, 2, 3, 3, 4, 3, 4, 4, 5, 3, 4, 4, 5, 4, 5, 5, 6, 2, 3, 3, 4, 3, 4, 4, 5, 3, 4, 4, 5, 4, 5, 5, 6, 3, 4, 4, 5, 4, 5, 5, 6, 4, 5, 5, 6, 5, 6, 6, 7, 2, 3, 3, 4, 3, 4, 4, 5, 3, 4, 4, 5, 4, 5, 5, 6, 3, 4, 4, 5, 4, 5, 5, 6, 4, 5, 5, 6, 5, 6, 6, 7, 3, 4, 4, 5, 4, 5, 5, 6, 4, 5, 5, 6, 5, 6, 6, 7, 4, 5, 5, 6, 5, 6, 6, 7, 5, 6, 6, 7, 6, 7, 7, 8]⟩ : ByteArray))[((bAnd .u32 (shrw .u32 x0 16) 255)).toNat]? = some b4) ∧
    ∃ b7, ((0 : Int) ≤ (bAnd .u32 (shrw .u32 x0 8) 255) ∧ ((⟨#[0, 1, 1, 2, 1, 2, 2, 3, 1, 2, 2, 3, 2, 3, 3, 4, 1, 2, 2, 3, 2, 3, 3, 4, 2, 3, 3, 4, 3, 4, 4, 5, 1, 2, 2, 3, 2, 3, 3, 4, 2, 3, 3, 4, 3, 4, 4, 5, 2, 3, 3, 4, 3, 4, 4, 5, 3, 4, 4, 5, 4, 5, 5, 6, 1, 2, 2, 3, 2, 3, 3, 4, 2, 3, 3, 4, 3, 4, 4, 5, 2, 3, 3, 4, 3, 4, 4, 5, 3, 4, 4, 5, 4, 5, 5, 6, 2, 3, 3, 4, 3, 4, 4, 5, 3, 4, 4, 5, 4, 5, 5, 6, 3, 4, 4, 5, 4, 5, 5, 6, 4, 5, 5, 6, 5, 6, 6, 7, 1, 2, 2, 3, 2, 3, 3, 4, 2, 3, 3, 4, 3, 4, 4, 5, 2, 3, 3, 4, 3, 4, 4, 5, 3, 4, 4, 5, 4, 5, 5, 6, 2, 3, 3, 4, 3, 4, 4, 5, 3, 4, 4, 5, 4, 5, 5, 6, 3, 4, 4, 5, 4, 5, 5, 6, 4, 5, 5, 6, 5, 6, 6, 7, 2, 3, 3, 4, 3, 4, 4, 5, 3, 4, 4, 5, 4, 5, 5, 6, 3, 4, 4, 5, 4, 5, 5, 6, 4, 5, 5, 6, 5, 6, 6, 7, 3, 4, 4, 5, 4, 5, 5, 6, 4, 5, 5, 6, 5, 6, 6, 7, 4, 5, 5, 6, 5, 6, 6, 7, 5, 6, 6, 7, 6, 7, 7, 8]⟩ : ByteArray))[((bAnd .u32 (shrw .u32 x0 8) 255)).toNat]? = some b7) ∧
    ∃ b10, ((0 : Int) ≤ (bAnd .u32 x0 255) ∧ ((⟨#[0, 1, 1, 2, 1, 2, 2, 3, 1, 2, 2, 3, 2, 3, 3, 4, 1, 2, 2, 3, 2, 3, 3, 4, 2, 3, 3, 4, 3, 4, 4, 5, 1, 2, 2, 3, 2, 3, 3, 4, 2, 3, 3, 4, 3, 4, 4, 5, 2, 3, 3, 4, 3, 4, 4, 5, 3, 4, 4, 5, 4, 5, 5, 6, 1, 2, 2, 3, 2, 3, 3, 4, 2, 3, 3, 4, 3, 4, 4, 5, 2, 3, 3, 4, 3, 4, 4, 5, 3, 4, 4, 5, 4, 5, 5, 6, 2, 3, 3, 4, 3, 4, 4, 5, 3, 4, 4, 5, 4, 5, 5, 6, 3, 4, 4, 5, 4, 5, 5, 6, 4, 5, 5, 6, 5, 6, 6, 7, 1, 2, 2, 3, 2, 3, 3, 4, 2, 3, 3, 4, 3, 4, 4, 5, 2, 3, 3, 4, 3, 4, 4, 5, 3, 4, 4, 5, 4, 5, 5, 6, 2, 3, 3, 4, 3, 4, 4, 5, 3, 4, 4, 5, 4, 5, 5, 6, 3, 4, 4, 5, 4, 5, 5, 6, 4, 5, 5, 6, 5, 6, 6, 7, 2, 3, 3, 4, 3, 4, 4, 5, 3, 4, 4, 5, 4, 5, 5, 6, 3, 4, 4, 5, 4, 5, 5, 6, 4, 5, 5, 6, 5, 6, 6, 7, 3, 4, 4, 5, 4, 5, 5, 6, 4, 5, 5, 6, 5, 6, 6, 7, 4, 5, 5, 6, 5, 6, 6, 7, 5, 6, 6, 7, 6, 7, 7, 8]⟩ : ByteArray))[((bAnd .u32 x0 255)).toNat]? = some b10) ∧
    φ ((IntKind.wrap .i64 (IntKind.wrap .u8 ((IntKind.wrap .u8 ((IntKind.wrap .u8 ((u8i b1) + (u8i b4))) + (u8i b7))) + (u8i b10)))))) : ∃ r, φ r ∧ C x0 r :=
 mEnt (fd := Try.f59) (body := B) (V := W) (res := res) <|
 mSt 6 h fun b1 h =>
 mSt 3 h fun b4 h =>
 mSt 4 h fun b7 h =>
 mSt 3 h fun b10 h =>
 mRet 4 h
end math_bits_OnesCount32
end Go.Own

namespace Go.Own
open Go.Proofs D
set_option maxRecDepth 100000
set_option maxHeartbeats 4000000
namespace attrset_Size
noncomputable def B : Code := (Try.f50.body).getD .skip
def W : List Nat := [0, 2]
def res (r : Int) : D × List D := (.lit (.int .i64 r), [])
def C (x0 : Int) (r : Int) : Prop := Ret env 50 [.lit (.int .u32 x0)] (res r).1 (res r).2
theorem enter (x0 : Int) (φ : Int → Prop) (h :
    ∃ r1 : Int, math_bits_OnesCount32.C x0 r1 ∧
    φ r1) : ∃ r, φ r ∧ C x0 r :=
 mEnt (fd := Try.f50) (body := B) (V := W) (res := res) <|
 mCal 5 h (fun _ h => h) fun r1 _ h =>
 mRet 2 h
end attrset_Size
end Go.Own

namespace Go.Own
open Go.Proofs D
set_option maxRecDepth 100000
set_option maxHeartbeats 4000000
namespace cmp_isNaN_api_Set
noncomputable def B : Code := (Try.f83.body).getD .skip
def W : List Nat := [0, 2]
def res (r : Bool) : D × List D := (.lit (.bool r), [])
def C (x0 : Int) (r : Bool) : Prop := Ret env 83 [.lit (.int .u32 x0)] (res r).1 (res r).2
theorem enter (x0 : Int) (φ : Bool → Prop) (h :
    φ ((x0 != x0))) : ∃ r, φ r ∧ C x0 r :=
 mEnt (fd := Try.f83) (body := B) (V := W) (res := res) <|
 mRet 9 h
end cmp_isNaN_api_Set
end Go.Own

namespace Go.Own
open Go.Proofs D
set_option maxRecDepth 100000
set_option maxHeartbeats 4000000
namespace cmp_Compare_api_Set
noncomputable def B : Code := (Try.f70.body).getD .skip
def W : List Nat := [0, 1, 4, 5, 6, 11, 12, 13, 16, 19]
def res (r : Int) : D × List D := (.lit (.int .i64 r), [])
def C (x0 : Int) (x1 : Int) (r : Int) : Prop := Ret env 70 [.lit (.int .u32 x0), .lit (.int .u32 x1)] (res r).1 (res r).2
theorem enter (x0 : Int) (x1 : Int) (φ : Int → Prop) (h :
    ∃ r1 : Bool, cmp_isNaN_api_Set.C x0 r1 ∧
    ∃ r2 : Bool, cmp_isNaN_api_Set.C x1 r2 ∧
    (if r1 = true then
      (if r2 = true then
        φ 0
      else
        φ ((-1)))
    else
      (if r2 = true then
        φ 1
      else
        (if x0 < x1 then
          φ ((-1))
        else
          (if x1 < x0 then
            φ 1
          else
            φ 0))))) : ∃ r, φ r ∧ C x0 x1 r :=
 mEnt (fd := Try.f70) (body := B) (V := W) (res := res) <|
 mCal 5 h (fun _ h => h) fun r1 _ h =>
 mCal 4 h (fun _ h => h) fun r2 _ h =>
 mAsk 3 h id fls (fun h =>
 mAsk 3 h id fls (fun h =>
 mRet 5 h) fun h =>
 mRet 6 h) fun h =>
 mAsk 4 h id fls (fun h =>
 mRet 5 h) fun h =>
 mAsk 6 h dT dF (fun h =>
 mRet 5 h) fun h =>
 mAsk 6 h dT dF (fun h =>
 mRet 5 h) fun h =>
 mRet 6 h
end cmp_Compare_api_Set
end Go.Own

namespace Go.Own
open Go.Proofs D
set_option maxRecDepth 100000
set_option maxHeartbeats 4000000
namespace cmp_isNaN_int
noncomputable def B : Code := (Try.f82.body).getD .skip
def W : List Nat := [0, 2]
def res (r : Bool) : D × List D := (.lit (.bool r), [])
def C (x0 : Int) (r : Bool) : Prop := Ret env 82 [.lit (.int .i64 x0)] (res r).1 (res r).2
theorem enter (x0 : Int) (φ : Bool → Prop) (h :
    φ ((x0 != x0))) : ∃ r, φ r ∧ C x0 r :=
 mEnt (fd := Try.f82) (body := B) (V := W) (res := res) <|
 mRet 9 h
end cmp_isNaN_int
end Go.Own

namespace Go.Own
open Go.Proofs D
set_option maxRecDepth 100000
set_option maxHeartbeats 4000000
namespace cmp_Compare_int
noncomputable def B : Code := (Try.f69.body).getD .skip
def W : List Nat := [0, 1, 4, 5, 6, 11, 12, 13, 16, 19]
def res (r : Int) : D × List D := (.lit (.int .i64 r), [])
def C (x0 : Int) (x1 : Int) (r : Int) : Prop := Ret env 69 [.lit (.int .i64 x0), .lit (.int .i64 x1)] (res r).1 (res r).2
theorem enter (x0 : Int) (x1 : Int) (φ : Int → Prop) (h :
    ∃ r1 : Bool, cmp_isNaN_int.C x0 r1 ∧
    ∃ r2 : Bool, cmp_isNaN_int.C x1 r2 ∧
    (if r1 = true then
      (if r2 = true then
        φ 0
      else
        φ ((-1)))
    else
      (if r2 = true then
        φ 1
      else
        (if x0 < x1 then
          φ ((-1))
        else
          (if x1 < x0 then
            φ 1
          else
            φ 0))))) : ∃ r, φ r ∧ C x0 x1 r :=
 mEnt (fd := Try.f69) (body := B) (V := W) (res := res) <|
 mCal 5 h (fun _ h => h) fun r1 _ h =>
 mCal 4 h (fun _ h => h) fun r2 _ h =>
 mAsk 3 h id fls (fun h =>
 mAsk 3 h id fls (fun h =>
 mRet 5 h) fun h =>
 mRet 6 h) fun h =>
 mAsk 4 h id fls (fun h =>
 mRet 5 h) fun h =>
 mAsk 6 h dT dF (fun h =>
 mRet 5 h) fun h =>
 mAsk 6 h dT dF (fun h =>
 mRet 5 h) fun h =>
 mRet 6 h
end cmp_Compare_int
end Go.Own

namespace Go.Own
open Go.Proofs D
set_option maxRecDepth 100000
set_option maxHeartbeats 4000000
namespace cmp_Or_int
noncomputable def B : Code := (Try.f68.body).getD .skip
def W : List Nat := [0, 2, 3, 5, 6, 7, 8, 9, 14]
def res (r : Int) : D × List D := (.lit (.int .i64 r), [])
def C (x0 : List Int) (r : Int) : Prop := Ret env 68 [.sl (x0.map (eI .i64))] (res r).1 (res r).2
def L1 (x0 : List Int) (y8_L1 : Int) (φ : Int → Prop) : Prop := Pt env 68 W B [1, 1, 0, 1, 0] [(0, .sl (x0.map (eI .i64))), (3, .lit (.int .i64 0)), (6, .sl (x0.map (eI .i64))), (7, .lit (.int .i64 ((x0.length : Int)))), (8, .lit (.int .i64 y8_L1))] (Lv env 68 Try.f68 1 res φ)
theorem L1_step (x0 : List Int) (y8_L1 : Int) (φ : Int → Prop) (h :
    (if y8_L1 < (x0.length : Int) then
      ∃ a1, lget x0 y8_L1 = some a1 ∧
      (if a1 = 0 then
        cmp_Or_int.L1 x0 ((IntKind.wrap .i64 (y8_L1 + 1))) φ
      else
        φ a1)
    else
      φ 0)) : L1 x0 y8_L1 φ :=
 mIn <|
 mAsk 2 h dT dF (fun h =>
 mIx 4 (eI .i64) h fun a1 h2 h =>
 mAskN 6 h bne_t bne_f (fun h =>
 mRet 6 h) fun h =>
 mFin 7 h) fun h =>
 mRet 7 h
theorem enter (x0 : List Int) (φ : Int → Prop) (h :
    cmp_Or_int.L1 x0 0 φ) : ∃ r, φ r ∧ C x0 r :=
 mEnt (fd := Try.f68) (body := B) (V := W) (res := res) <|
 mLen 8 (eI .i64) x0 <|
 mFin 2 h
end cmp_Or_int
end Go.Own

namespace Go.Own
open Go.Proofs D
set_option maxRecDepth 100000
set_option maxHeartbeats 4000000
namespace attrset_compare
noncomputable def B : Code := (Try.f61.body).getD .skip
def W : List Nat := [0, 1, 4]
def res (r : Int) : D × List D := (.lit (.int .i64 r), [])
def C (x0 : Int) (x1 : Int) (r : Int) : Prop := Ret env 61 [.lit (.int .u32 x0), .lit (.int .u32 x1)] (res r).1 (res r).2
theorem enter (x0 : Int) (x1 : Int) (φ : Int → Prop) (h :
    ∃ r1 : Int, attrset_Size.C x0 r1 ∧
    ∃ r2 : Int, attrset_Size.C x1 r2 ∧
    ∃ r3 : Int, cmp_Compare_int.C r1 r2 r3 ∧
    ∃ r4 : Int, cmp_Compare_api_Set.C x0 x1 r4 ∧
    ∃ r5 : Int, cmp_Or_int.C ([r3, r4]) r5 ∧
    φ r5) : ∃ r, φ r ∧ C x0 x1 r :=
 mEnt (fd := Try.f61) (body := B) (V := W) (res := res) <|
 mCal 5 h (fun _ h => h) fun r1 _ h =>
 mCal 1 h (fun _ h => h) fun r2 _ h =>
 mCal 0 h (fun _ h => h) fun r3 _ h =>
 mCal 2 h (fun _ h => h) fun r4 _ h =>
 mCal 1 h (fun _ h => h) (hr := by exact (pr_snap (snap_ow (s := 13) (ps := []) (l := [r3, r4]) (e := (eI .i64)) (e' := (eI .i64)) (fun _ => rfl) (by kernel_rfl)) pr_nil)) fun r5 _ h =>
 mRet 2 h
end attrset_compare
end Go.Own

namespace Go.Own
open Go.Proofs D
set_option maxRecDepth 100000
set_option maxHeartbeats 4000000
namespace slices_insertionSortCmpFunc_api_Set_attrset_compare
noncomputable def B : Code := (Try.f72.body).getD .skip
def W : List Nat := [0, 1, 2, 3, 8, 9, 14, 34, 1000000]
def res (r : List Int) : D × List D := (.tup [], [.own (r.map (eI .u32))])
def C (x1 : Int) (x2 : Int) (k0_0 : List Int) (r : List Int) : Prop := Ret env 72 [.own (k0_0.map (eI .u32)), .lit (.int .i64 x1), .lit (.int .i64 x2), .fn 61 []] (res r).1 (res r).2
def L1 (x1 : Int) (x2 : Int) (y8_L1 : Int) (k0_0 : List Int) (φ : List Int → Prop) : Prop := Pt env 72 W B [1, 0] [(0, .alias 1000000 []), (1, .lit (.int .i64 x1)), (2, .lit (.int .i64 x2)), (3, .fn 61 []), (8, .lit (.int .i64 y8_L1)), (1000000, .own (k0_0.map (eI .u32)))] (Lv env 72 Try.f72 4 res φ)
def L2 (x1 : Int) (x2 : Int) (y8_L2 : Int) (y9_L2 : Int) (k0_0 : List Int) (φ : List Int → Prop) : Prop := Pt env 72 W B [1, 0, 0, 1, 0, 0, 1, 0] [(0, .alias 1000000 []), (1, .lit (.int .i64 x1)), (2, .lit (.int .i64 x2)), (3, .fn 61 []), (8, .lit (.int .i64 y8_L2)), (9, .lit (.int .i64 y9_L2)), (1000000, .own (k0_0.map (eI .u32)))] (Lv env 72 Try.f72 4 res φ)
def L3 (x1 : Int) (x2 : Int) (y8_L2 : Int) (k0_0 : List Int) (φ : List Int → Prop) : Prop := Pt env 72 W B [1, 0, 0, 1, 1] [(0, .alias 1000000 []), (1, .lit (.int .i64 x1)), (2, .lit (.int .i64 x2)), (3, .fn 61 []), (8, .lit (.int .i64 y8_L2)), (1000000, .own (k0_0.map (eI .u32)))] (Lv env 72 Try.f72 4 res φ)
theorem L1_step (x1 : Int) (x2 : Int) (y8_L1 : Int) (k0_0 : List Int) (φ : List Int → Prop) (h :
    (if y8_L1 < x2 then
      slices_insertionSortCmpFunc_api_Set_attrset_compare.L2 x1 x2 y8_L1 y8_L1 k0_0 φ
    else
      φ k0_0)) : L1 x1 x2 y8_L1 k0_0 φ :=
 mIn <|
 mAsk 4 h dT dF (fun h =>
 mFin 7 h) fun h =>
 mRet 2 h
theorem L2_step (x1 : Int) (x2 : Int) (y8_L2 : Int) (y9_L2 : Int) (k0_0 : List Int) (φ : List Int → Prop) (h :
    (if x1 < y9_L2 then
      ∃ a1, lget k0_0 y9_L2 = some a1 ∧
      ∃ a3, lget k0_0 ((IntKind.wrap .i64 (y9_L2 - 1))) = some a3 ∧
      ∃ r5 : Int, attrset_compare.C a1 a3 r5 ∧
      (if r5 < 0 then
        ∃ a6, lget ((lset k0_0 y9_L2 a3)) ((IntKind.wrap .i64 (y9_L2 - 1))) = some a6 ∧
        slices_insertionSortCmpFunc_api_Set_attrset_compare.L2 x1 x2 y8_L2 ((IntKind.wrap .i64 (y9_L2 - 1))) ((lset (lset k0_0 y9_L2 a3) (IntKind.wrap .i64 (y9_L2 - 1)) a1)) φ
      else
        slices_insertionSortCmpFunc_api_Set_attrset_compare.L3 x1 x2 y8_L2 k0_0 φ)
    else
      slices_insertionSortCmpFunc_api_Set_attrset_compare.L3 x1 x2 y8_L2 k0_0 φ)) : L2 x1 x2 y8_L2 y9_L2 k0_0 φ :=
 mIn <|
 mAsk 4 h dT dF (fun h =>
 mIy 4 (eI .u32) h fun a1 h2 h =>
 mLd 0 (eI .u32) h2 <|
 mIy 3 (eI .u32) h fun a3 h4 h =>
 mLd 0 (eI .u32) h4 <|
 mCal 0 h (fun _ h => h) fun r5 _ h =>
 mAsk 0 h dT dF (fun h =>
 mIyf 13 (eI .u32) h4 <|
 mLd 0 (eI .u32) h4 <|
 mIyf 2 (eI .u32) h2 <|
 mLd 0 (eI .u32) h2 <|
 mIyf 0 (eI .u32) h2 <|
 mStoL 0 (eI .u32) a3 h2 <|
 mIy 0 (eI .u32) h fun a6 h7 h =>
 mSto 0 (eI .u32) a1 h7 <|
 mFin 6 h) fun h =>
 mFin 4 h) fun h =>
 mFin 17 h
theorem L3_step (x1 : Int) (x2 : Int) (y8_L2 : Int) (k0_0 : List Int) (φ : List Int → Prop) (h :
    slices_insertionSortCmpFunc_api_Set_attrset_compare.L1 x1 x2 ((IntKind.wrap .i64 (y8_L2 + 1))) k0_0 φ) : L3 x1 x2 y8_L2 k0_0 φ :=
 mIn <|
 mFin 5 h
theorem enter (x1 : Int) (x2 : Int) (k0_0 : List Int) (φ : List Int → Prop) (h :
    slices_insertionSortCmpFunc_api_Set_attrset_compare.L1 x1 x2 ((IntKind.wrap .i64 (x1 + 1))) k0_0 φ) : ∃ r, φ r ∧ C x1 x2 k0_0 r :=
 mEnt (fd := Try.f72) (body := B) (V := W) (res := res) <|
 mFin 5 h
end slices_insertionSortCmpFunc_api_Set_attrset_compare
end Go.Own

namespace Go.Own
open Go.Proofs D
set_option maxRecDepth 100000
set_option maxHeartbeats 4000000
namespace slices_siftDownCmpFunc_api_Set_attrset_compare
noncomputable def B : Code := (Try.f84.body).getD .skip
def W : List Nat := [0, 1, 2, 3, 4, 10, 11, 18, 40, 58, 1000000]
def res (r : List Int) : D × List D := (.tup [], [.own (r.map (eI .u32))])
def C (x1 : Int) (x2 : Int) (x3 : Int) (k0_0 : List Int) (r : List Int) : Prop := Ret env 84 [.own (k0_0.map (eI .u32)), .lit (.int .i64 x1), .lit (.int .i64 x2), .lit (.int .i64 x3), .fn 61 []] (res r).1 (res r).2
def L1 (x2 : Int) (x3 : Int) (x1 : Int) (k0_0 : List Int) (φ : List Int → Prop) : Prop := Pt env 84 W B [1, 0] [(0, .alias 1000000 []), (2, .lit (.int .i64 x2)), (3, .lit (.int .i64 x3)), (4, .fn 61 []), (10, .lit (.int .i64 x1)), (1000000, .own (k0_0.map (eI .u32)))] (Lv env 84 Try.f84 5 res φ)
def L2 (x2 : Int) (x3 : Int) (x1 : Int) (y11_L2 : Int) (k0_0 : List Int) (φ : List Int → Prop) : Prop := Pt env 84 W B [1, 0, 0, 0, 1, 1, 1, 0, 0] [(0, .alias 1000000 []), (2, .lit (.int .i64 x2)), (3, .lit (.int .i64 x3)), (4, .fn 61 []), (10, .lit (.int .i64 x1)), (11, .lit (.int .i64 y11_L2)), (1000000, .own (k0_0.map (eI .u32)))] (Lv env 84 Try.f84 5 res φ)
theorem L1_step (x2 : Int) (x3 : Int) (x1 : Int) (k0_0 : List Int) (φ : List Int → Prop) (h :
    (if x2 ≤ (IntKind.wrap .i64 ((IntKind.wrap .i64 (2 * x1)) + 1)) then
      φ k0_0
    else
      (if (IntKind.wrap .i64 ((IntKind.wrap .i64 ((IntKind.wrap .i64 (2 * x1)) + 1)) + 1)) < x2 then
        ∃ a1, lget k0_0 ((IntKind.wrap .i64 (x3 + (IntKind.wrap .i64 ((IntKind.wrap .i64 (2 * x1)) + 1))))) = some a1 ∧
        ∃ a3, lget k0_0 ((IntKind.wrap .i64 ((IntKind.wrap .i64 (x3 + (IntKind.wrap .i64 ((IntKind.wrap .i64 (2 * x1)) + 1)))) + 1))) = some a3 ∧
        ∃ r5 : Int, attrset_compare.C a1 a3 r5 ∧
        (if r5 < 0 then
          slices_siftDownCmpFunc_api_Set_attrset_compare.L2 x2 x3 x1 ((IntKind.wrap .i64 ((IntKind.wrap .i64 ((IntKind.wrap .i64 (2 * x1)) + 1)) + 1))) k0_0 φ
        else
          slices_siftDownCmpFunc_api_Set_attrset_compare.L2 x2 x3 x1 ((IntKind.wrap .i64 ((IntKind.wrap .i64 (2 * x1)) + 1))) k0_0 φ)
      else
        slices_siftDownCmpFunc_api_Set_attrset_compare.L2 x2 x3 x1 ((IntKind.wrap .i64 ((IntKind.wrap .i64 (2 * x1)) + 1))) k0_0 φ))) : L1 x2 x3 x1 k0_0 φ :=
 mIn <|
 mAsk 10 h dT dF (fun h =>
 mRet 2 h) fun h =>
 mAsk 7 h dT dF (fun h =>
 mIy 6 (eI .u32) h fun a1 h2 h =>
 mLd 0 (eI .u32) h2 <|
 mIy 5 (eI .u32) h fun a3 h4 h =>
 mLd 0 (eI .u32) h4 <|
 mCal 0 h (fun _ h => h) fun r5 _ h =>
 mAsk 0 h dT dF (fun h =>
 mFin 8 h) fun h =>
 mFin 4 h) fun h =>
 mFin 21 h
theorem L2_step (x2 : Int) (x3 : Int) (x1 : Int) (y11_L2 : Int) (k0_0 : List Int) (φ : List Int → Prop) (h :
    ∃ a6, lget k0_0 ((IntKind.wrap .i64 (x3 + x1))) = some a6 ∧
    ∃ a8, lget k0_0 ((IntKind.wrap .i64 (x3 + y11_L2))) = some a8 ∧
    ∃ r10 : Int, attrset_compare.C a6 a8 r10 ∧
    (if r10 < 0 then
      ∃ a11, lget ((lset k0_0 (IntKind.wrap .i64 (x3 + x1)) a8)) ((IntKind.wrap .i64 (x3 + y11_L2))) = some a11 ∧
      slices_siftDownCmpFunc_api_Set_attrset_compare.L1 x2 x3 y11_L2 ((lset (lset k0_0 (IntKind.wrap .i64 (x3 + x1)) a8) (IntKind.wrap .i64 (x3 + y11_L2)) a6)) φ
    else
      φ k0_0)) : L2 x2 x3 x1 y11_L2 k0_0 φ :=
 mIn <|
 mIy 6 (eI .u32) h fun a6 h7 h =>
 mLd 0 (eI .u32) h7 <|
 mIy 4 (eI .u32) h fun a8 h9 h =>
 mLd 0 (eI .u32) h9 <|
 mCal 0 h (fun _ h => h) fun r10 _ h =>
 mAsk 0 h dT dF (fun h =>
 mIyf 17 (eI .u32) h9 <|
 mLd 0 (eI .u32) h9 <|
 mIyf 4 (eI .u32) h7 <|
 mLd 0 (eI .u32) h7 <|
 mIyf 0 (eI .u32) h7 <|
 mStoL 0 (eI .u32) a8 h7 <|
 mIy 0 (eI .u32) h fun a11 h12 h =>
 mSto 0 (eI .u32) a6 h12 <|
 mFin 5 h) fun h =>
 mRet 3 h
theorem enter (x1 : Int) (x2 : Int) (x3 : Int) (k0_0 : List Int) (φ : List Int → Prop) (h :
    slices_siftDownCmpFunc_api_Set_attrset_compare.L1 x2 x3 x1 k0_0 φ) : ∃ r, φ r ∧ C x1 x2 x3 k0_0 r :=
 mEnt (fd := Try.f84) (body := B) (V := W) (res := res) <|
 mFin 4 h
end slices_siftDownCmpFunc_api_Set_attrset_compare
end Go.Own

namespace Go.Own
open Go.Proofs D
set_option maxRecDepth 100000
set_option maxHeartbeats 4000000
namespace slices_heapSortCmpFunc_api_Set_attrset_compare
noncomputable def B : Code := (Try.f73.body).getD .skip
def W : List Nat := [0, 1, 2, 3, 8, 9, 10, 11, 12, 21, 33, 1000000]
def res (r : List Int) : D × List D := (.tup [], [.own (r.map (eI .u32))])
def C (x1 : Int) (x2 : Int) (k0_0 : List Int) (r : List Int) : Prop := Ret env 73 [.own (k0_0.map (eI .u32)), .lit (.int .i64 x1), .lit (.int .i64 x2), .fn 61 []] (res r).1 (res r).2
def L1 (x1 : Int) (y10_L1 : Int) (y11_L1 : Int) (k0_0 : List Int) (φ : List Int → Prop) : Prop := Pt env 73 W B [1, 1, 1, 0, 1, 0] [(0, .alias 1000000 []), (3, .fn 61 []), (8, .lit (.int .i64 x1)), (9, .lit (.int .i64 0)), (10, .lit (.int .i64 y10_L1)), (11, .lit (.int .i64 y11_L1)), (1000000, .own (k0_0.map (eI .u32)))] (Lv env 73 Try.f73 4 res φ)
def L2 (x1 : Int) (y12_L2 : Int) (k0_0 : List Int) (φ : List Int → Prop) : Prop := Pt env 73 W B [1, 1, 1, 1, 1, 0] [(0, .alias 1000000 []), (3, .fn 61 []), (8, .lit (.int .i64 x1)), (9, .lit (.int .i64 0)), (12, .lit (.int .i64 y12_L2)), (1000000, .own (k0_0.map (eI .u32)))] (Lv env 73 Try.f73 4 res φ)
theorem L1_step (x1 : Int) (y10_L1 : Int) (y11_L1 : Int) (k0_0 : List Int) (φ : List Int → Prop) (h :
    (if 0 ≤ y11_L1 then
      ∃ r1 : List Int, slices_siftDownCmpFunc_api_Set_attrset_compare.C y11_L1 y10_L1 x1 k0_0 r1 ∧
      slices_heapSortCmpFunc_api_Set_attrset_compare.L1 x1 y10_L1 ((IntKind.wrap .i64 (y11_L1 - 1))) r1 φ
    else
      slices_heapSortCmpFunc_api_Set_attrset_compare.L2 x1 ((IntKind.wrap .i64 (y10_L1 - 1))) k0_0 φ)) : L1 x1 y10_L1 y11_L1 k0_0 φ :=
 mIn <|
 mAsk 3 h dT dF (fun h =>
 mCal 9 h (fun _ h => h) (hf := (fun _ => clF_flat1 (flat_tup flts_nil) (flat_ow (e := (eI .u32)) (fun _ => rfl)))) fun r1 _ h =>
 mFin 6 h) fun h =>
 mFin 8 h
theorem L2_step (x1 : Int) (y12_L2 : Int) (k0_0 : List Int) (φ : List Int → Prop) (h :
    (if 0 ≤ y12_L2 then
      ∃ a2, lget k0_0 ((IntKind.wrap .i64 (x1 + y12_L2))) = some a2 ∧
      ∃ a4, lget k0_0 x1 = some a4 ∧
      ∃ a6, lget ((lset k0_0 x1 a2)) ((IntKind.wrap .i64 (x1 + y12_L2))) = some a6 ∧
      ∃ r8 : List Int, slices_siftDownCmpFunc_api_Set_attrset_compare.C 0 y12_L2 x1 ((lset (lset k0_0 x1 a2) (IntKind.wrap .i64 (x1 + y12_L2)) a4)) r8 ∧
      slices_heapSortCmpFunc_api_Set_attrset_compare.L2 x1 ((IntKind.wrap .i64 (y12_L2 - 1))) r8 φ
    else
      φ k0_0)) : L2 x1 y12_L2 k0_0 φ :=
 mIn <|
 mAsk 3 h dT dF (fun h =>
 mIy 14 (eI .u32) h fun a2 h3 h =>
 mLd 0 (eI .u32) h3 <|
 mIy 2 (eI .u32) h fun a4 h5 h =>
 mLd 0 (eI .u32) h5 <|
 mIyf 0 (eI .u32) h5 <|
 mStoL 0 (eI .u32) a2 h5 <|
 mIy 0 (eI .u32) h fun a6 h7 h =>
 mSto 0 (eI .u32) a4 h7 <|
 mCal 7 h (fun _ h => h) (hf := (fun _ => clF_flat1 (flat_tup flts_nil) (flat_ow (e := (eI .u32)) (fun _ => rfl)))) fun r8 _ h =>
 mFin 6 h) fun h =>
 mRet 2 h
theorem enter (x1 : Int) (x2 : Int) (k0_0 : List Int) (φ : List Int → Prop) (h :
    slices_heapSortCmpFunc_api_Set_attrset_compare.L1 x1 ((IntKind.wrap .i64 (x2 - x1))) ((IntKind.wrap .i64 (Int.tdiv (IntKind.wrap .i64 ((IntKind.wrap .i64 (x2 - x1)) - 1)) 2))) k0_0 φ) : ∃ r, φ r ∧ C x1 x2 k0_0 r :=
 mEnt (fd := Try.f73) (body := B) (V := W) (res := res) <|
 mFin 19 h
end slices_heapSortCmpFunc_api_Set_attrset_compare
end Go.Own

namespace Go.Own
open Go.Proofs D
set_option maxRecDepth 100000
set_option maxHeartbeats 4000000
namespace slices_partialInsertionSortCmpFunc_api_Set_attrset_compare
noncomputable def B : Code := (Try.f77.body).getD .skip
def W : List Nat := [0, 1, 2, 3, 8, 9, 10, 11, 12, 16, 36, 41, 45, 65, 69, 84, 104, 109, 124, 1000000]
def res (r : Bool × List Int) : D × List D := (.lit (.bool r.1), [.own (r.2.map (eI .u32))])
def C (x1 : Int) (x2 : Int) (k0_0 : List Int) (r : Bool × List Int) : Prop := Ret env 77 [.own (k0_0.map (eI .u32)), .lit (.int .i64 x1), .lit (.int .i64 x2), .fn 61 []] (res r).1 (res r).2
def L1 (x1 : Int) (x2 : Int) (y9_L1 : Int) (y10_L1 : Int) (k0_0 : List Int) (φ : Bool × List Int → Prop) : Prop := Pt env 77 W B [1, 1, 0, 1, 0] [(0, .alias 1000000 []), (1, .lit (.int .i64 x1)), (2, .lit (.int .i64 x2)), (3, .fn 61 []), (9, .lit (.int .i64 y9_L1)), (10, .lit (.int .i64 y10_L1)), (1000000, .own (k0_0.map (eI .u32)))] (Lv env 77 Try.f77 4 res φ)
def L2 (x1 : Int) (x2 : Int) (y9_L2 : Int) (y10_L2 : Int) (k0_0 : List Int) (φ : Bool × List Int → Prop) : Prop := Pt env 77 W B [1, 1, 0, 1, 0, 0, 1, 0, 0, 0, 0] [(0, .alias 1000000 []), (1, .lit (.int .i64 x1)), (2, .lit (.int .i64 x2)), (3, .fn 61 []), (9, .lit (.int .i64 y9_L2)), (10, .lit (.int .i64 y10_L2)), (1000000, .own (k0_0.map (eI .u32)))] (Lv env 77 Try.f77 4 res φ)
def L5 (x1 : Int) (x2 : Int) (y9_L2 : Int) (y10_L2 : Int) (k0_0 : List Int) (φ : Bool × List Int → Prop) : Prop := Pt env 77 W B [1, 1, 0, 1, 0, 0, 1, 0, 0, 1, 0, 0] [(0, .alias 1000000 []), (1, .lit (.int .i64 x1)), (2, .lit (.int .i64 x2)), (3, .fn 61 []), (9, .lit (.int .i64 y9_L2)), (10, .lit (.int .i64 y10_L2)), (1000000, .own (k0_0.map (eI .u32)))] (Lv env 77 Try.f77 4 res φ)
def L3 (x1 : Int) (x2 : Int) (y9_L3 : Int) (y10_L3 : Int) (y11_L3 : Int) (y1000000_L3 : List Int) (φ : Bool × List Int → Prop) : Prop := Pt env 77 W B [1, 1, 0, 1, 0, 0, 1, 0, 0, 1, 1, 1, 1, 0, 1, 0, 1, 0] [(0, .alias 1000000 []), (1, .lit (.int .i64 x1)), (2, .lit (.int .i64 x2)), (3, .fn 61 []), (9, .lit (.int .i64 y9_L3)), (10, .lit (.int .i64 y10_L3)), (11, .lit (.int .i64 y11_L3)), (1000000, .own (y1000000_L3.map (eI .u32)))] (Lv env 77 Try.f77 4 res φ)
def L6 (x1 : Int) (x2 : Int) (y9_L2 : Int) (y10_L2 : Int) (y1000000_L6 : List Int) (φ : Bool × List Int → Prop) : Prop := Pt env 77 W B [1, 1, 0, 1, 0, 0, 1, 0, 0, 1, 1, 1, 1, 1, 0] [(0, .alias 1000000 []), (1, .lit (.int .i64 x1)), (2, .lit (.int .i64 x2)), (3, .fn 61 []), (9, .lit (.int .i64 y9_L2)), (10, .lit (.int .i64 y10_L2)), (1000000, .own (y1000000_L6.map (eI .u32)))] (Lv env 77 Try.f77 4 res φ)
def L4 (x1 : Int) (x2 : Int) (y9_L4 : Int) (y10_L4 : Int) (y12_L4 : Int) (y1000000_L4 : List Int) (φ : Bool × List Int → Prop) : Prop := Pt env 77 W B [1, 1, 0, 1, 0, 0, 1, 0, 0, 1, 1, 1, 1, 1, 1, 0, 1, 0] [(0, .alias 1000000 []), (1, .lit (.int .i64 x1)), (2, .lit (.int .i64 x2)), (3, .fn 61 []), (9, .lit (.int .i64 y9_L4)), (10, .lit (.int .i64 y10_L4)), (12, .lit (.int .i64 y12_L4)), (1000000, .own (y1000000_L4.map (eI .u32)))] (Lv env 77 Try.f77 4 res φ)
def L7 (x1 : Int) (x2 : Int) (y9_L2 : Int) (y10_L2 : Int) (y1000000_L6 : List Int) (φ : Bool × List Int → Prop) : Prop := Pt env 77 W B [1, 1, 0, 1, 0, 0, 1, 1] [(0, .alias 1000000 []), (1, .lit (.int .i64 x1)), (2, .lit (.int .i64 x2)), (3, .fn 61 []), (9, .lit (.int .i64 y9_L2)), (10, .lit (.int .i64 y10_L2)), (1000000, .own (y1000000_L6.map (eI .u32)))] (Lv env 77 Try.f77 4 res φ)
theorem L1_step (x1 : Int) (x2 : Int) (y9_L1 : Int) (y10_L1 : Int) (k0_0 : List Int) (φ : Bool × List Int → Prop) (h :
    (if y10_L1 < 5 then
      slices_partialInsertionSortCmpFunc_api_Set_attrset_compare.L2 x1 x2 y9_L1 y10_L1 k0_0 φ
    else
      φ ((false, k0_0)))) : L1 x1 x2 y9_L1 y10_L1 k0_0 φ :=
 mIn <|
 mAsk 3 h dT dF (fun h =>
 mFin 3 h) fun h =>
 mRet 6 h
theorem L2_step (x1 : Int) (x2 : Int) (y9_L2 : Int) (y10_L2 : Int) (k0_0 : List Int) (φ : Bool × List Int → Prop) (h :
    (if y9_L2 < x2 then
      ∃ a1, lget k0_0 y9_L2 = some a1 ∧
      ∃ a3, lget k0_0 ((IntKind.wrap .i64 (y9_L2 - 1))) = some a3 ∧
      ∃ r5 : Int, attrset_compare.C a1 a3 r5 ∧
      (if r5 < 0 then
        slices_partialInsertionSortCmpFunc_api_Set_attrset_compare.L5 x1 x2 y9_L2 y10_L2 k0_0 φ
      else
        slices_partialInsertionSortCmpFunc_api_Set_attrset_compare.L2 x1 x2 ((IntKind.wrap .i64 (y9_L2 + 1))) y10_L2 k0_0 φ)
    else
      slices_partialInsertionSortCmpFunc_api_Set_attrset_compare.L5 x1 x2 y9_L2 y10_L2 k0_0 φ)) : L2 x1 x2 y9_L2 y10_L2 k0_0 φ :=
 mIn <|
 mAsk 4 h dT dF (fun h =>
 mIy 4 (eI .u32) h fun a1 h2 h =>
 mLd 0 (eI .u32) h2 <|
 mIy 3 (eI .u32) h fun a3 h4 h =>
 mLd 0 (eI .u32) h4 <|
 mCal 0 h (fun _ h => h) fun r5 _ h =>
 mAsk 0 h dT dF (fun h =>
 mFin 5 h) fun h =>
 mFin 10 h) fun h =>
 mFin 18 h
theorem L5_step (x1 : Int) (x2 : Int) (y9_L2 : Int) (y10_L2 : Int) (k0_0 : List Int) (φ : Bool × List Int → Prop) (h :
    (if y9_L2 = x2 then
      φ ((true, k0_0))
    else
      (if (IntKind.wrap .i64 (x2 - x1)) < 50 then
        φ ((false, k0_0))
      else
        ∃ a6, lget k0_0 ((IntKind.wrap .i64 (y9_L2 - 1))) = some a6 ∧
        ∃ a8, lget k0_0 y9_L2 = some a8 ∧
        ∃ a10, lget ((lset k0_0 y9_L2 a6)) ((IntKind.wrap .i64 (y9_L2 - 1))) = some a10 ∧
        (if 2 ≤ (IntKind.wrap .i64 (y9_L2 - x1)) then
          slices_partialInsertionSortCmpFunc_api_Set_attrset_compare.L3 x1 x2 y9_L2 y10_L2 ((IntKind.wrap .i64 (y9_L2 - 1))) ((lset (lset k0_0 y9_L2 a6) (IntKind.wrap .i64 (y9_L2 - 1)) a8)) φ
        else
          slices_partialInsertionSortCmpFunc_api_Set_attrset_compare.L6 x1 x2 y9_L2 y10_L2 ((lset (lset k0_0 y9_L2 a6) (IntKind.wrap .i64 (y9_L2 - 1)) a8)) φ)))) : L5 x1 x2 y9_L2 y10_L2 k0_0 φ :=
 mIn <|
 mAsk 3 h beq_t beq_f (fun h =>
 mRet 5 h) fun h =>
 mAsk 7 h dT dF (fun h =>
 mRet 5 h) fun h =>
 mIy 12 (eI .u32) h fun a6 h7 h =>
 mLd 0 (eI .u32) h7 <|
 mIy 2 (eI .u32) h fun a8 h9 h =>
 mLd 0 (eI .u32) h9 <|
 mIyf 0 (eI .u32) h9 <|
 mStoL 0 (eI .u32) a6 h9 <|
 mIy 0 (eI .u32) h fun a10 h11 h =>
 mSto 0 (eI .u32) a8 h11 <|
 mAsk 5 h dT dF (fun h =>
 mFin 7 h) fun h =>
 mFin 3 h
theorem L3_step (x1 : Int) (x2 : Int) (y9_L3 : Int) (y10_L3 : Int) (y11_L3 : Int) (y1000000_L3 : List Int) (φ : Bool × List Int → Prop) (h :
    (if 1 ≤ y11_L3 then
      ∃ a12, lget y1000000_L3 y11_L3 = some a12 ∧
      ∃ a14, lget y1000000_L3 ((IntKind.wrap .i64 (y11_L3 - 1))) = some a14 ∧
      ∃ r16 : Int, attrset_compare.C a12 a14 r16 ∧
      (if r16 < 0 then
        ∃ a17, lget ((lset y1000000_L3 y11_L3 a14)) ((IntKind.wrap .i64 (y11_L3 - 1))) = some a17 ∧
        slices_partialInsertionSortCmpFunc_api_Set_attrset_compare.L3 x1 x2 y9_L3 y10_L3 ((IntKind.wrap .i64 (y11_L3 - 1))) ((lset (lset y1000000_L3 y11_L3 a14) (IntKind.wrap .i64 (y11_L3 - 1)) a12)) φ
      else
        slices_partialInsertionSortCmpFunc_api_Set_attrset_compare.L6 x1 x2 y9_L3 y10_L3 y1000000_L3 φ)
    else
      slices_partialInsertionSortCmpFunc_api_Set_attrset_compare.L6 x1 x2 y9_L3 y10_L3 y1000000_L3 φ)) : L3 x1 x2 y9_L3 y10_L3 y11_L3 y1000000_L3 φ :=
 mIn <|
 mAsk 3 h dT dF (fun h =>
 mIy 7 (eI .u32) h fun a12 h13 h =>
 mLd 0 (eI .u32) h13 <|
 mIy 3 (eI .u32) h fun a14 h15 h =>
 mLd 0 (eI .u32) h15 <|
 mCal 0 h (fun _ h => h) fun r16 _ h =>
 mAsk 0 h dT dF (fun h =>
 mIyf 13 (eI .u32) h15 <|
 mLd 0 (eI .u32) h15 <|
 mIyf 2 (eI .u32) h13 <|
 mLd 0 (eI .u32) h13 <|
 mIyf 0 (eI .u32) h13 <|
 mStoL 0 (eI .u32) a14 h13 <|
 mIy 0 (eI .u32) h fun a17 h18 h =>
 mSto 0 (eI .u32) a12 h18 <|
 mFin 6 h) fun h =>
 mFin 4 h) fun h =>
 mFin 3 h
theorem L6_step (x1 : Int) (x2 : Int) (y9_L2 : Int) (y10_L2 : Int) (y1000000_L6 : List Int) (φ : Bool × List Int → Prop) (h :
    (if 2 ≤ (IntKind.wrap .i64 (x2 - y9_L2)) then
      slices_partialInsertionSortCmpFunc_api_Set_attrset_compare.L4 x1 x2 y9_L2 y10_L2 ((IntKind.wrap .i64 (y9_L2 + 1))) y1000000_L6 φ
    else
      slices_partialInsertionSortCmpFunc_api_Set_attrset_compare.L7 x1 x2 y9_L2 y10_L2 y1000000_L6 φ)) : L6 x1 x2 y9_L2 y10_L2 y1000000_L6 φ :=
 mIn <|
 mAsk 4 h dT dF (fun h =>
 mFin 7 h) fun h =>
 mFin 3 h
theorem L4_step (x1 : Int) (x2 : Int) (y9_L4 : Int) (y10_L4 : Int) (y12_L4 : Int) (y1000000_L4 : List Int) (φ : Bool × List Int → Prop) (h :
    (if y12_L4 < x2 then
      ∃ a19, lget y1000000_L4 y12_L4 = some a19 ∧
      ∃ a21, lget y1000000_L4 ((IntKind.wrap .i64 (y12_L4 - 1))) = some a21 ∧
      ∃ r23 : Int, attrset_compare.C a19 a21 r23 ∧
      (if r23 < 0 then
        ∃ a24, lget ((lset y1000000_L4 y12_L4 a21)) ((IntKind.wrap .i64 (y12_L4 - 1))) = some a24 ∧
        slices_partialInsertionSortCmpFunc_api_Set_attrset_compare.L4 x1 x2 y9_L4 y10_L4 ((IntKind.wrap .i64 (y12_L4 + 1))) ((lset (lset y1000000_L4 y12_L4 a21) (IntKind.wrap .i64 (y12_L4 - 1)) a19)) φ
      else
        slices_partialInsertionSortCmpFunc_api_Set_attrset_compare.L7 x1 x2 y9_L4 y10_L4 y1000000_L4 φ)
    else
      slices_partialInsertionSortCmpFunc_api_Set_attrset_compare.L7 x1 x2 y9_L4 y10_L4 y1000000_L4 φ)) : L4 x1 x2 y9_L4 y10_L4 y12_L4 y1000000_L4 φ :=
 mIn <|
 mAsk 4 h dT dF (fun h =>
 mIy 7 (eI .u32) h fun a19 h20 h =>
 mLd 0 (eI .u32) h20 <|
 mIy 3 (eI .u32) h fun a21 h22 h =>
 mLd 0 (eI .u32) h22 <|
 mCal 0 h (fun _ h => h) fun r23 _ h =>
 mAsk 0 h dT dF (fun h =>
 mIyf 13 (eI .u32) h22 <|
 mLd 0 (eI .u32) h22 <|
 mIyf 2 (eI .u32) h20 <|
 mLd 0 (eI .u32) h20 <|
 mIyf 0 (eI .u32) h20 <|
 mStoL 0 (eI .u32) a21 h20 <|
 mIy 0 (eI .u32) h fun a24 h25 h =>
 mSto 0 (eI .u32) a19 h25 <|
 mFin 6 h) fun h =>
 mFin 4 h) fun h =>
 mFin 3 h
theorem L7_step (x1 : Int) (x2 : Int) (y9_L2 : Int) (y10_L2 : Int) (y1000000_L6 : List Int) (φ : Bool × List Int → Prop) (h :
    slices_partialInsertionSortCmpFunc_api_Set_attrset_compare.L1 x1 x2 y9_L2 ((IntKind.wrap .i64 (y10_L2 + 1))) y1000000_L6 φ) : L7 x1 x2 y9_L2 y10_L2 y1000000_L6 φ :=
 mIn <|
 mFin 5 h
theorem enter (x1 : Int) (x2 : Int) (k0_0 : List Int) (φ : Bool × List Int → Prop) (h :
    slices_partialInsertionSortCmpFunc_api_Set_attrset_compare.L1 x1 x2 ((IntKind.wrap .i64 (x1 + 1))) 0 k0_0 φ) : ∃ r, φ r ∧ C x1 x2 k0_0 r :=
 mEnt (fd := Try.f77) (body := B) (V := W) (res := res) <|
 mFin 11 h
end slices_partialInsertionSortCmpFunc_api_Set_attrset_compare
end Go.Own

namespace Go.Own
open Go.Proofs D
set_option maxRecDepth 100000
set_option maxHeartbeats 4000000
namespace slices_partitionCmpFunc_api_Set_attrset_compare
noncomputable def B : Code := (Try.f79.body).getD .skip
def W : List Nat := [0, 1, 2, 3, 4, 10, 11, 12, 13, 47, 66, 71, 120, 139, 144, 1000000]
def res (r : Int × Bool × List Int) : D × List D := (.tup [.lit (.int .i64 r.1), .lit (.bool r.2.1)], [.own (r.2.2.map (eI .u32))])
def C (x1 : Int) (x2 : Int) (x3 : Int) (k0_0 : List Int) (r : Int × Bool × List Int) : Prop := Ret env 79 [.own (k0_0.map (eI .u32)), .lit (.int .i64 x1), .lit (.int .i64 x2), .lit (.int .i64 x3), .fn 61 []] (res r).1 (res r).2
def L1 (x1 : Int) (y12_L1 : Int) (y13_L1 : Int) (y1000000_L1 : List Int) (φ : Int × Bool × List Int → Prop) : Prop := Pt env 79 W B [1, 1, 1, 0, 0] [(0, .alias 1000000 []), (1, .lit (.int .i64 x1)), (4, .fn 61 []), (12, .lit (.int .i64 y12_L1)), (13, .lit (.int .i64 y13_L1)), (1000000, .own (y1000000_L1.map (eI .u32)))] (Lv env 79 Try.f79 5 res φ)
def L2 (x1 : Int) (y12_L1 : Int) (y13_L1 : Int) (y1000000_L1 : List Int) (φ : Int × Bool × List Int → Prop) : Prop := Pt env 79 W B [1, 1, 1, 1, 0, 0] [(0, .alias 1000000 []), (1, .lit (.int .i64 x1)), (4, .fn 61 []), (12, .lit (.int .i64 y12_L1)), (13, .lit (.int .i64 y13_L1)), (1000000, .own (y1000000_L1.map (eI .u32)))] (Lv env 79 Try.f79 5 res φ)
def L4 (x1 : Int) (y12_L1 : Int) (y13_L1 : Int) (y1000000_L1 : List Int) (φ : Int × Bool × List Int → Prop) : Prop := Pt env 79 W B [1, 1, 1, 1, 1, 0, 0] [(0, .alias 1000000 []), (1, .lit (.int .i64 x1)), (4, .fn 61 []), (12, .lit (.int .i64 y12_L1)), (13, .lit (.int .i64 y13_L1)), (1000000, .own (y1000000_L1.map (eI .u32)))] (Lv env 79 Try.f79 5 res φ)
def L3 (x1 : Int) (y12_L3 : Int) (y13_L3 : Int) (y1000000_L3 : List Int) (φ : Int × Bool × List Int → Prop) : Prop := Pt env 79 W B [1, 1, 1, 1, 1, 1, 1, 1, 1, 0, 0] [(0, .alias 1000000 []), (1, .lit (.int .i64 x1)), (4, .fn 61 []), (12, .lit (.int .i64 y12_L3)), (13, .lit (.int .i64 y13_L3)), (1000000, .own (y1000000_L3.map (eI .u32)))] (Lv env 79 Try.f79 5 res φ)
def L5 (x1 : Int) (y12_L3 : Int) (y13_L3 : Int) (y1000000_L3 : List Int) (φ : Int × Bool × List Int → Prop) : Prop := Pt env 79 W B [1, 1, 1, 1, 1, 1, 1, 1, 1, 0, 0, 0, 0, 0, 0] [(0, .alias 1000000 []), (1, .lit (.int .i64 x1)), (4, .fn 61 []), (12, .lit (.int .i64 y12_L3)), (13, .lit (.int .i64 y13_L3)), (1000000, .own (y1000000_L3.map (eI .u32)))] (Lv env 79 Try.f79 5 res φ)
def L6 (x1 : Int) (y12_L3 : Int) (y13_L3 : Int) (y1000000_L3 : List Int) (φ : Int × Bool × List Int → Prop) : Prop := Pt env 79 W B [1, 1, 1, 1, 1, 1, 1, 1, 1, 0, 0, 0, 0, 1, 0, 0] [(0, .alias 1000000 []), (1, .lit (.int .i64 x1)), (4, .fn 61 []), (12, .lit (.int .i64 y12_L3)), (13, .lit (.int .i64 y13_L3)), (1000000, .own (y1000000_L3.map (eI .u32)))] (Lv env 79 Try.f79 5 res φ)
def L7 (x1 : Int) (y12_L3 : Int) (y13_L3 : Int) (y1000000_L3 : List Int) (φ : Int × Bool × List Int → Prop) : Prop := Pt env 79 W B [1, 1, 1, 1, 1, 1, 1, 1, 1, 0, 0, 0, 0, 1, 1, 0, 0] [(0, .alias 1000000 []), (1, .lit (.int .i64 x1)), (4, .fn 61 []), (12, .lit (.int .i64 y12_L3)), (13, .lit (.int .i64 y13_L3)), (1000000, .own (y1000000_L3.map (eI .u32)))] (Lv env 79 Try.f79 5 res φ)
theorem L1_step (x1 : Int) (y12_L1 : Int) (y13_L1 : Int) (y1000000_L1 : List Int) (φ : Int × Bool × List Int → Prop) (h :
    (if y12_L1 ≤ y13_L1 then
      ∃ a7, lget y1000000_L1 y12_L1 = some a7 ∧
      ∃ a9, lget y1000000_L1 x1 = some a9 ∧
      ∃ r11 : Int, attrset_compare.C a7 a9 r11 ∧
      (if r11 < 0 then
        slices_partitionCmpFunc_api_Set_attrset_compare.L1 x1 ((IntKind.wrap .i64 (y12_L1 + 1))) y13_L1 y1000000_L1 φ
      else
        slices_partitionCmpFunc_api_Set_attrset_compare.L2 x1 y12_L1 y13_L1 y1000000_L1 φ)
    else
      slices_partitionCmpFunc_api_Set_attrset_compare.L2 x1 y12_L1 y13_L1 y1000000_L1 φ)) : L1 x1 y12_L1 y13_L1 y1000000_L1 φ :=
 mIn <|
 mAsk 4 h dT dF (fun h =>
 mIy 4 (eI .u32) h fun a7 h8 h =>
 mLd 0 (eI .u32) h8 <|
 mIy 2 (eI .u32) h fun a9 h10 h =>
 mLd 0 (eI .u32) h10 <|
 mCal 0 h (fun _ h => h) fun r11 _ h =>
 mAsk 0 h dT dF (fun h =>
 mFin 9 h) fun h =>
 mFin 4 h) fun h =>
 mFin 16 h
theorem L2_step (x1 : Int) (y12_L1 : Int) (y13_L1 : Int) (y1000000_L1 : List Int) (φ : Int × Bool × List Int → Prop) (h :
    (if y12_L1 ≤ y13_L1 then
      ∃ a12, lget y1000000_L1 y13_L1 = some a12 ∧
      ∃ a14, lget y1000000_L1 x1 = some a14 ∧
      ∃ r16 : Int, attrset_compare.C a12 a14 r16 ∧
      (if r16 < 0 then
        slices_partitionCmpFunc_api_Set_attrset_compare.L4 x1 y12_L1 y13_L1 y1000000_L1 φ
      else
        slices_partitionCmpFunc_api_Set_attrset_compare.L2 x1 y12_L1 ((IntKind.wrap .i64 (y13_L1 - 1))) y1000000_L1 φ)
    else
      slices_partitionCmpFunc_api_Set_attrset_compare.L4 x1 y12_L1 y13_L1 y1000000_L1 φ)) : L2 x1 y12_L1 y13_L1 y1000000_L1 φ :=
 mIn <|
 mAsk 4 h dT dF (fun h =>
 mIy 4 (eI .u32) h fun a12 h13 h =>
 mLd 0 (eI .u32) h13 <|
 mIy 2 (eI .u32) h fun a14 h15 h =>
 mLd 0 (eI .u32) h15 <|
 mCal 0 h (fun _ h => h) fun r16 _ h =>
 mAsk 0 h dT dF (fun h =>
 mFin 5 h) fun h =>
 mFin 10 h) fun h =>
 mFin 17 h
theorem L4_step (x1 : Int) (y12_L1 : Int) (y13_L1 : Int) (y1000000_L1 : List Int) (φ : Int × Bool × List Int → Prop) (h :
    (if y13_L1 < y12_L1 then
      ∃ a17, lget y1000000_L1 x1 = some a17 ∧
      ∃ a19, lget y1000000_L1 y13_L1 = some a19 ∧
      ∃ a21, lget ((lset y1000000_L1 y13_L1 a17)) x1 = some a21 ∧
      φ ((y13_L1, true, (lset (lset y1000000_L1 y13_L1 a17) x1 a19)))
    else
      ∃ a23, lget y1000000_L1 y13_L1 = some a23 ∧
      ∃ a25, lget y1000000_L1 y12_L1 = some a25 ∧
      ∃ a27, lget ((lset y1000000_L1 y12_L1 a23)) y13_L1 = some a27 ∧
      slices_partitionCmpFunc_api_Set_attrset_compare.L3 x1 ((IntKind.wrap .i64 (y12_L1 + 1))) ((IntKind.wrap .i64 (y13_L1 - 1))) ((lset (lset y1000000_L1 y12_L1 a23) y13_L1 a25)) φ)) : L4 x1 y12_L1 y13_L1 y1000000_L1 φ :=
 mIn <|
 mAsk 3 h dT dF (fun h =>
 mIy 9 (eI .u32) h fun a17 h18 h =>
 mLd 0 (eI .u32) h18 <|
 mIy 2 (eI .u32) h fun a19 h20 h =>
 mLd 0 (eI .u32) h20 <|
 mIyf 0 (eI .u32) h20 <|
 mStoL 0 (eI .u32) a17 h20 <|
 mIy 0 (eI .u32) h fun a21 h22 h =>
 mSto 0 (eI .u32) a19 h22 <|
 mRet 6 h) fun h =>
 mIy 10 (eI .u32) h fun a23 h24 h =>
 mLd 0 (eI .u32) h24 <|
 mIy 2 (eI .u32) h fun a25 h26 h =>
 mLd 0 (eI .u32) h26 <|
 mIyf 0 (eI .u32) h26 <|
 mStoL 0 (eI .u32) a23 h26 <|
 mIy 0 (eI .u32) h fun a27 h28 h =>
 mSto 0 (eI .u32) a25 h28 <|
 mFin 11 h
theorem L3_step (x1 : Int) (y12_L3 : Int) (y13_L3 : Int) (y1000000_L3 : List Int) (φ : Int × Bool × List Int → Prop) (h :
    slices_partitionCmpFunc_api_Set_attrset_compare.L5 x1 y12_L3 y13_L3 y1000000_L3 φ) : L3 x1 y12_L3 y13_L3 y1000000_L3 φ :=
 mIn <|
 mFin 1 h
theorem L5_step (x1 : Int) (y12_L3 : Int) (y13_L3 : Int) (y1000000_L3 : List Int) (φ : Int × Bool × List Int → Prop) (h :
    (if y12_L3 ≤ y13_L3 then
      ∃ a29, lget y1000000_L3 y12_L3 = some a29 ∧
      ∃ a31, lget y1000000_L3 x1 = some a31 ∧
      ∃ r33 : Int, attrset_compare.C a29 a31 r33 ∧
      (if r33 < 0 then
        slices_partitionCmpFunc_api_Set_attrset_compare.L5 x1 ((IntKind.wrap .i64 (y12_L3 + 1))) y13_L3 y1000000_L3 φ
      else
        slices_partitionCmpFunc_api_Set_attrset_compare.L6 x1 y12_L3 y13_L3 y1000000_L3 φ)
    else
      slices_partitionCmpFunc_api_Set_attrset_compare.L6 x1 y12_L3 y13_L3 y1000000_L3 φ)) : L5 x1 y12_L3 y13_L3 y1000000_L3 φ :=
 mIn <|
 mAsk 4 h dT dF (fun h =>
 mIy 4 (eI .u32) h fun a29 h30 h =>
 mLd 0 (eI .u32) h30 <|
 mIy 2 (eI .u32) h fun a31 h32 h =>
 mLd 0 (eI .u32) h32 <|
 mCal 0 h (fun _ h => h) fun r33 _ h =>
 mAsk 0 h dT dF (fun h =>
 mFin 9 h) fun h =>
 mFin 4 h) fun h =>
 mFin 16 h
theorem L6_step (x1 : Int) (y12_L3 : Int) (y13_L3 : Int) (y1000000_L3 : List Int) (φ : Int × Bool × List Int → Prop) (h :
    (if y12_L3 ≤ y13_L3 then
      ∃ a34, lget y1000000_L3 y13_L3 = some a34 ∧
      ∃ a36, lget y1000000_L3 x1 = some a36 ∧
      ∃ r38 : Int, attrset_compare.C a34 a36 r38 ∧
      (if r38 < 0 then
        slices_partitionCmpFunc_api_Set_attrset_compare.L7 x1 y12_L3 y13_L3 y1000000_L3 φ
      else
        slices_partitionCmpFunc_api_Set_attrset_compare.L6 x1 y12_L3 ((IntKind.wrap .i64 (y13_L3 - 1))) y1000000_L3 φ)
    else
      slices_partitionCmpFunc_api_Set_attrset_compare.L7 x1 y12_L3 y13_L3 y1000000_L3 φ)) : L6 x1 y12_L3 y13_L3 y1000000_L3 φ :=
 mIn <|
 mAsk 4 h dT dF (fun h =>
 mIy 4 (eI .u32) h fun a34 h35 h =>
 mLd 0 (eI .u32) h35 <|
 mIy 2 (eI .u32) h fun a36 h37 h =>
 mLd 0 (eI .u32) h37 <|
 mCal 0 h (fun _ h => h) fun r38 _ h =>
 mAsk 0 h dT dF (fun h =>
 mFin 5 h) fun h =>
 mFin 10 h) fun h =>
 mFin 17 h
theorem L7_step (x1 : Int) (y12_L3 : Int) (y13_L3 : Int) (y1000000_L3 : List Int) (φ : Int × Bool × List Int → Prop) (h :
    (if y13_L3 < y12_L3 then
      ∃ a39, lget y1000000_L3 x1 = some a39 ∧
      ∃ a41, lget y1000000_L3 y13_L3 = some a41 ∧
      ∃ a43, lget ((lset y1000000_L3 y13_L3 a39)) x1 = some a43 ∧
      φ ((y13_L3, false, (lset (lset y1000000_L3 y13_L3 a39) x1 a41)))
    else
      ∃ a45, lget y1000000_L3 y13_L3 = some a45 ∧
      ∃ a47, lget y1000000_L3 y12_L3 = some a47 ∧
      ∃ a49, lget ((lset y1000000_L3 y12_L3 a45)) y13_L3 = some a49 ∧
      slices_partitionCmpFunc_api_Set_attrset_compare.L3 x1 ((IntKind.wrap .i64 (y12_L3 + 1))) ((IntKind.wrap .i64 (y13_L3 - 1))) ((lset (lset y1000000_L3 y12_L3 a45) y13_L3 a47)) φ)) : L7 x1 y12_L3 y13_L3 y1000000_L3 φ :=
 mIn <|
 mAsk 3 h dT dF (fun h =>
 mIy 10 (eI .u32) h fun a39 h40 h =>
 mLd 0 (eI .u32) h40 <|
 mIy 2 (eI .u32) h fun a41 h42 h =>
 mLd 0 (eI .u32) h42 <|
 mIyf 0 (eI .u32) h42 <|
 mStoL 0 (eI .u32) a39 h42 <|
 mIy 0 (eI .u32) h fun a43 h44 h =>
 mSto 0 (eI .u32) a41 h44 <|
 mRet 6 h) fun h =>
 mIy 10 (eI .u32) h fun a45 h46 h =>
 mLd 0 (eI .u32) h46 <|
 mIy 2 (eI .u32) h fun a47 h48 h =>
 mLd 0 (eI .u32) h48 <|
 mIyf 0 (eI .u32) h48 <|
 mStoL 0 (eI .u32) a45 h48 <|
 mIy 0 (eI .u32) h fun a49 h50 h =>
 mSto 0 (eI .u32) a47 h50 <|
 mFin 11 h
theorem enter (x1 : Int) (x2 : Int) (x3 : Int) (k0_0 : List Int) (φ : Int × Bool × List Int → Prop) (h :
    ∃ a1, lget k0_0 x3 = some a1 ∧
    ∃ a3, lget k0_0 x1 = some a3 ∧
    ∃ a5, lget ((lset k0_0 x1 a1)) x3 = some a5 ∧
    slices_partitionCmpFunc_api_Set_attrset_compare.L1 x1 ((IntKind.wrap .i64 (x1 + 1))) ((IntKind.wrap .i64 (x2 - 1))) ((lset (lset k0_0 x1 a1) x3 a3)) φ) : ∃ r, φ r ∧ C x1 x2 x3 k0_0 r :=
 mEnt (fd := Try.f79) (body := B) (V := W) (res := res) <|
 mIy 11 (eI .u32) h fun a1 h2 h =>
 mLd 0 (eI .u32) h2 <|
 mIy 2 (eI .u32) h fun a3 h4 h =>
 mLd 0 (eI .u32) h4 <|
 mIyf 0 (eI .u32) h4 <|
 mStoL 0 (eI .u32) a1 h4 <|
 mIy 0 (eI .u32) h fun a5 h6 h =>
 mSto 0 (eI .u32) a3 h6 <|
 mFin 9 h
end slices_partitionCmpFunc_api_Set_attrset_compare
end Go.Own

namespace Go.Own
open Go.Proofs D
set_option maxRecDepth 100000
set_option maxHeartbeats 4000000
namespace slices_partitionEqualCmpFunc_api_Set_attrset_compare
noncomputable def B : Code := (Try.f78.body).getD .skip
def W : List Nat := [0, 1, 2, 3, 4, 10, 11, 12, 47, 65, 70, 1000000]
def res (r : Int × List Int) : D × List D := (.lit (.int .i64 r.1), [.own (r.2.map (eI .u32))])
def C (x1 : Int) (x2 : Int) (x3 : Int) (k0_0 : List Int) (r : Int × List Int) : Prop := Ret env 78 [.own (k0_0.map (eI .u32)), .lit (.int .i64 x1), .lit (.int .i64 x2), .lit (.int .i64 x3), .fn 61 []] (res r).1 (res r).2
def L1 (x1 : Int) (y11_L1 : Int) (y12_L1 : Int) (y1000000_L1 : List Int) (φ : Int × List Int → Prop) : Prop := Pt env 78 W B [1, 1, 1, 0, 0] [(0, .alias 1000000 []), (1, .lit (.int .i64 x1)), (4, .fn 61 []), (11, .lit (.int .i64 y11_L1)), (12, .lit (.int .i64 y12_L1)), (1000000, .own (y1000000_L1.map (eI .u32)))] (Lv env 78 Try.f78 5 res φ)
def L2 (x1 : Int) (y11_L2 : Int) (y12_L2 : Int) (y1000000_L2 : List Int) (φ : Int × List Int → Prop) : Prop := Pt env 78 W B [1, 1, 1, 0, 0, 0, 0, 0, 0] [(0, .alias 1000000 []), (1, .lit (.int .i64 x1)), (4, .fn 61 []), (11, .lit (.int .i64 y11_L2)), (12, .lit (.int .i64 y12_L2)), (1000000, .own (y1000000_L2.map (eI .u32)))] (Lv env 78 Try.f78 5 res φ)
def L3 (x1 : Int) (y11_L3 : Int) (y12_L3 : Int) (y1000000_L3 : List Int) (φ : Int × List Int → Prop) : Prop := Pt env 78 W B [1, 1, 1, 0, 0, 0, 0, 1, 0, 0] [(0, .alias 1000000 []), (1, .lit (.int .i64 x1)), (4, .fn 61 []), (11, .lit (.int .i64 y11_L3)), (12, .lit (.int .i64 y12_L3)), (1000000, .own (y1000000_L3.map (eI .u32)))] (Lv env 78 Try.f78 5 res φ)
def L4 (x1 : Int) (y11_L3 : Int) (y12_L3 : Int) (y1000000_L3 : List Int) (φ : Int × List Int → Prop) : Prop := Pt env 78 W B [1, 1, 1, 0, 0, 0, 0, 1, 1, 0, 0] [(0, .alias 1000000 []), (1, .lit (.int .i64 x1)), (4, .fn 61 []), (11, .lit (.int .i64 y11_L3)), (12, .lit (.int .i64 y12_L3)), (1000000, .own (y1000000_L3.map (eI .u32)))] (Lv env 78 Try.f78 5 res φ)
theorem L1_step (x1 : Int) (y11_L1 : Int) (y12_L1 : Int) (y1000000_L1 : List Int) (φ : Int × List Int → Prop) (h :
    slices_partitionEqualCmpFunc_api_Set_attrset_compare.L2 x1 y11_L1 y12_L1 y1000000_L1 φ) : L1 x1 y11_L1 y12_L1 y1000000_L1 φ :=
 mIn <|
 mFin 1 h
theorem L2_step (x1 : Int) (y11_L2 : Int) (y12_L2 : Int) (y1000000_L2 : List Int) (φ : Int × List Int → Prop) (h :
    (if y11_L2 ≤ y12_L2 then
      ∃ a7, lget y1000000_L2 x1 = some a7 ∧
      ∃ a9, lget y1000000_L2 y11_L2 = some a9 ∧
      ∃ r11 : Int, attrset_compare.C a7 a9 r11 ∧
      (if r11 < 0 then
        slices_partitionEqualCmpFunc_api_Set_attrset_compare.L3 x1 y11_L2 y12_L2 y1000000_L2 φ
      else
        slices_partitionEqualCmpFunc_api_Set_attrset_compare.L2 x1 ((IntKind.wrap .i64 (y11_L2 + 1))) y12_L2 y1000000_L2 φ)
    else
      slices_partitionEqualCmpFunc_api_Set_attrset_compare.L3 x1 y11_L2 y12_L2 y1000000_L2 φ)) : L2 x1 y11_L2 y12_L2 y1000000_L2 φ :=
 mIn <|
 mAsk 4 h dT dF (fun h =>
 mIy 4 (eI .u32) h fun a7 h8 h =>
 mLd 0 (eI .u32) h8 <|
 mIy 2 (eI .u32) h fun a9 h10 h =>
 mLd 0 (eI .u32) h10 <|
 mCal 0 h (fun _ h => h) fun r11 _ h =>
 mAsk 0 h dT dF (fun h =>
 mFin 5 h) fun h =>
 mFin 10 h) fun h =>
 mFin 17 h
theorem L3_step (x1 : Int) (y11_L3 : Int) (y12_L3 : Int) (y1000000_L3 : List Int) (φ : Int × List Int → Prop) (h :
    (if y11_L3 ≤ y12_L3 then
      ∃ a12, lget y1000000_L3 x1 = some a12 ∧
      ∃ a14, lget y1000000_L3 y12_L3 = some a14 ∧
      ∃ r16 : Int, attrset_compare.C a12 a14 r16 ∧
      (if r16 < 0 then
        slices_partitionEqualCmpFunc_api_Set_attrset_compare.L3 x1 y11_L3 ((IntKind.wrap .i64 (y12_L3 - 1))) y1000000_L3 φ
      else
        slices_partitionEqualCmpFunc_api_Set_attrset_compare.L4 x1 y11_L3 y12_L3 y1000000_L3 φ)
    else
      slices_partitionEqualCmpFunc_api_Set_attrset_compare.L4 x1 y11_L3 y12_L3 y1000000_L3 φ)) : L3 x1 y11_L3 y12_L3 y1000000_L3 φ :=
 mIn <|
 mAsk 4 h dT dF (fun h =>
 mIy 4 (eI .u32) h fun a12 h13 h =>
 mLd 0 (eI .u32) h13 <|
 mIy 2 (eI .u32) h fun a14 h15 h =>
 mLd 0 (eI .u32) h15 <|
 mCal 0 h (fun _ h => h) fun r16 _ h =>
 mAsk 0 h dT dF (fun h =>
 mFin 9 h) fun h =>
 mFin 4 h) fun h =>
 mFin 16 h
theorem L4_step (x1 : Int) (y11_L3 : Int) (y12_L3 : Int) (y1000000_L3 : List Int) (φ : Int × List Int → Prop) (h :
    (if y12_L3 < y11_L3 then
      φ ((y11_L3, y1000000_L3))
    else
      ∃ a17, lget y1000000_L3 y12_L3 = some a17 ∧
      ∃ a19, lget y1000000_L3 y11_L3 = some a19 ∧
      ∃ a21, lget ((lset y1000000_L3 y11_L3 a17)) y12_L3 = some a21 ∧
      slices_partitionEqualCmpFunc_api_Set_attrset_compare.L1 x1 ((IntKind.wrap .i64 (y11_L3 + 1))) ((IntKind.wrap .i64 (y12_L3 - 1))) ((lset (lset y1000000_L3 y11_L3 a17) y12_L3 a19)) φ)) : L4 x1 y11_L3 y12_L3 y1000000_L3 φ :=
 mIn <|
 mAsk 3 h dT dF (fun h =>
 mRet 7 h) fun h =>
 mIy 10 (eI .u32) h fun a17 h18 h =>
 mLd 0 (eI .u32) h18 <|
 mIy 2 (eI .u32) h fun a19 h20 h =>
 mLd 0 (eI .u32) h20 <|
 mIyf 0 (eI .u32) h20 <|
 mStoL 0 (eI .u32) a17 h20 <|
 mIy 0 (eI .u32) h fun a21 h22 h =>
 mSto 0 (eI .u32) a19 h22 <|
 mFin 11 h
theorem enter (x1 : Int) (x2 : Int) (x3 : Int) (k0_0 : List Int) (φ : Int × List Int → Prop) (h :
    ∃ a1, lget k0_0 x3 = some a1 ∧
    ∃ a3, lget k0_0 x1 = some a3 ∧
    ∃ a5, lget ((lset k0_0 x1 a1)) x3 = some a5 ∧
    slices_partitionEqualCmpFunc_api_Set_attrset_compare.L1 x1 ((IntKind.wrap .i64 (x1 + 1))) ((IntKind.wrap .i64 (x2 - 1))) ((lset (lset k0_0 x1 a1) x3 a3)) φ) : ∃ r, φ r ∧ C x1 x2 x3 k0_0 r :=
 mEnt (fd := Try.f78) (body := B) (V := W) (res := res) <|
 mIy 10 (eI .u32) h fun a1 h2 h =>
 mLd 0 (eI .u32) h2 <|
 mIy 2 (eI .u32) h fun a3 h4 h =>
 mLd 0 (eI .u32) h4 <|
 mIyf 0 (eI .u32) h4 <|
 mStoL 0 (eI .u32) a1 h4 <|
 mIy 0 (eI .u32) h fun a5 h6 h =>
 mSto 0 (eI .u32) a3 h6 <|
 mFin 9 h
end slices_partitionEqualCmpFunc_api_Set_attrset_compare
end Go.Own

namespace Go.Own
open Go.Proofs D
set_option maxRecDepth 100000
set_option maxHeartbeats 4000000
namespace slices_reverseRangeCmpFunc_api_Set_attrset_compare
noncomputable def B : Code := (Try.f76.body).getD .skip
def W : List Nat := [0, 1, 2, 3, 8, 9, 15, 1000000]
def res (r : List Int) : D × List D := (.tup [], [.own (r.map (eI .u32))])
def C (x1 : Int) (x2 : Int) (k0_0 : List Int) (r : List Int) : Prop := Ret env 76 [.own (k0_0.map (eI .u32)), .lit (.int .i64 x1), .lit (.int .i64 x2), .fn 61 []] (res r).1 (res r).2
def L1 (x1 : Int) (y9_L1 : Int) (k0_0 : List Int) (φ : List Int → Prop) : Prop := Pt env 76 W B [1, 1, 0] [(0, .alias 1000000 []), (8, .lit (.int .i64 x1)), (9, .lit (.int .i64 y9_L1)), (1000000, .own (k0_0.map (eI .u32)))] (Lv env 76 Try.f76 4 res φ)
theorem L1_step (x1 : Int) (y9_L1 : Int) (k0_0 : List Int) (φ : List Int → Prop) (h :
    (if x1 < y9_L1 then
      ∃ a1, lget k0_0 y9_L1 = some a1 ∧
      ∃ a3, lget k0_0 x1 = some a3 ∧
      ∃ a5, lget ((lset k0_0 x1 a1)) y9_L1 = some a5 ∧
      slices_reverseRangeCmpFunc_api_Set_attrset_compare.L1 ((IntKind.wrap .i64 (x1 + 1))) ((IntKind.wrap .i64 (y9_L1 - 1))) ((lset (lset k0_0 x1 a1) y9_L1 a3)) φ
    else
      φ k0_0)) : L1 x1 y9_L1 k0_0 φ :=
 mIn <|
 mAsk 4 h dT dF (fun h =>
 mIy 10 (eI .u32) h fun a1 h2 h =>
 mLd 0 (eI .u32) h2 <|
 mIy 2 (eI .u32) h fun a3 h4 h =>
 mLd 0 (eI .u32) h4 <|
 mIyf 0 (eI .u32) h4 <|
 mStoL 0 (eI .u32) a1 h4 <|
 mIy 0 (eI .u32) h fun a5 h6 h =>
 mSto 0 (eI .u32) a3 h6 <|
 mFin 11 h) fun h =>
 mRet 2 h
theorem enter (x1 : Int) (x2 : Int) (k0_0 : List Int) (φ : List Int → Prop) (h :
    slices_reverseRangeCmpFunc_api_Set_attrset_compare.L1 x1 ((IntKind.wrap .i64 (x2 - 1))) k0_0 φ) : ∃ r, φ r ∧ C x1 x2 k0_0 r :=
 mEnt (fd := Try.f76) (body := B) (V := W) (res := res) <|
 mFin 9 h
end slices_reverseRangeCmpFunc_api_Set_attrset_compare
end Go.Own

namespace Go.Own
open Go.Proofs D
set_option maxRecDepth 100000
set_option maxHeartbeats 4000000
namespace slices_order2CmpFunc_api_Set_attrset_compare
noncomputable def B : Code := (Try.f89.body).getD .skip
def W : List Nat := [0, 1, 2, 3, 4, 10, 11, 22, 1000003]
def res (r : Int × Int × Int) : D × List D := (.tup [.lit (.int .i64 r.1), .lit (.int .i64 r.2.1)], [.box [.lit (.int .i64 r.2.2)]])
def C (x0 : List Int) (x1 : Int) (x2 : Int) (k3_0 : Int) (r : Int × Int × Int) : Prop := Ret env 89 [.sl (x0.map (eI .u32)), .lit (.int .i64 x1), .lit (.int .i64 x2), .box [.lit (.int .i64 k3_0)], .fn 61 []] (res r).1 (res r).2
theorem enter (x0 : List Int) (x1 : Int) (x2 : Int) (k3_0 : Int) (φ : Int × Int × Int → Prop) (h :
    ∃ a1, lget x0 x2 = some a1 ∧
    ∃ a3, lget x0 x1 = some a3 ∧
    ∃ r5 : Int, attrset_compare.C a1 a3 r5 ∧
    (if r5 < 0 then
      φ ((x2, x1, (IntKind.wrap .i64 (k3_0 + 1))))
    else
      φ ((x1, x2, k3_0)))) : ∃ r, φ r ∧ C x0 x1 x2 k3_0 r :=
 mEnt (fd := Try.f89) (body := B) (V := W) (res := res) <|
 mIx 8 (eI .u32) h fun a1 h2 h =>
 mIx 3 (eI .u32) h fun a3 h4 h =>
 mCal 1 h (fun _ h => h) fun r5 _ h =>
 mAsk 0 h dT dF (fun h =>
 mRet 16 h) fun h =>
 mRet 9 h
end slices_order2CmpFunc_api_Set_attrset_compare
end Go.Own

namespace Go.Own
open Go.Proofs D
set_option maxRecDepth 100000
set_option maxHeartbeats 4000000
namespace slices_medianCmpFunc_api_Set_attrset_compare
noncomputable def B : Code := (Try.f88.body).getD .skip
def W : List Nat := [0, 1, 2, 3, 4, 5, 12, 1000004]
def res (r : Int × Int) : D × List D := (.lit (.int .i64 r.1), [.box [.lit (.int .i64 r.2)]])
def C (x0 : List Int) (x1 : Int) (x2 : Int) (x3 : Int) (k4_0 : Int) (r : Int × Int) : Prop := Ret env 88 [.sl (x0.map (eI .u32)), .lit (.int .i64 x1), .lit (.int .i64 x2), .lit (.int .i64 x3), .box [.lit (.int .i64 k4_0)], .fn 61 []] (res r).1 (res r).2
theorem enter (x0 : List Int) (x1 : Int) (x2 : Int) (x3 : Int) (k4_0 : Int) (φ : Int × Int → Prop) (h :
    ∃ r1 : Int × Int × Int, slices_order2CmpFunc_api_Set_attrset_compare.C x0 x1 x2 k4_0 r1 ∧
    ∃ r2 : Int × Int × Int, slices_order2CmpFunc_api_Set_attrset_compare.C x0 r1.2.1 x3 r1.2.2 r2 ∧
    ∃ r3 : Int × Int × Int, slices_order2CmpFunc_api_Set_attrset_compare.C x0 r1.1 r2.1 r2.2.2 r3 ∧
    φ ((r3.2.1, r3.2.2))) : ∃ r, φ r ∧ C x0 x1 x2 x3 k4_0 r :=
 mEnt (fd := Try.f88) (body := B) (V := W) (res := res) <|
 mCal 9 h (fun _ h => h) fun r1 _ h =>
 mCal 12 h (fun _ h => h) fun r2 _ h =>
 mCal 12 h (fun _ h => h) fun r3 _ h =>
 mRet 10 h
end slices_medianCmpFunc_api_Set_attrset_compare
end Go.Own

namespace Go.Own
open Go.Proofs D
set_option maxRecDepth 100000
set_option maxHeartbeats 4000000
namespace slices_medianAdjacentCmpFunc_api_Set_attrset_compare
noncomputable def B : Code := (Try.f87.body).getD .skip
def W : List Nat := [0, 1, 2, 3, 8, 1000002]
def res (r : Int × Int) : D × List D := (.lit (.int .i64 r.1), [.box [.lit (.int .i64 r.2)]])
def C (x0 : List Int) (x1 : Int) (k2_0 : Int) (r : Int × Int) : Prop := Ret env 87 [.sl (x0.map (eI .u32)), .lit (.int .i64 x1), .box [.lit (.int .i64 k2_0)], .fn 61 []] (res r).1 (res r).2
theorem enter (x0 : List Int) (x1 : Int) (k2_0 : Int) (φ : Int × Int → Prop) (h :
    ∃ r1 : Int × Int, slices_medianCmpFunc_api_Set_attrset_compare.C x0 ((IntKind.wrap .i64 (x1 - 1))) x1 ((IntKind.wrap .i64 (x1 + 1))) k2_0 r1 ∧
    φ ((r1.1, r1.2))) : ∃ r, φ r ∧ C x0 x1 k2_0 r :=
 mEnt (fd := Try.f87) (body := B) (V := W) (res := res) <|
 mCal 12 h (fun _ h => h) fun r1 _ h =>
 mRet 2 h
end slices_medianAdjacentCmpFunc_api_Set_attrset_compare
end Go.Own

namespace Go.Own
open Go.Proofs D
set_option maxRecDepth 100000
set_option maxHeartbeats 4000000
namespace slices_choosePivotCmpFunc_api_Set_attrset_compare
noncomputable def B : Code := (Try.f75.body).getD .skip
def W : List Nat := [0, 1, 2, 3, 8, 9, 10, 11, 12, 13, 14, 34, 36, 55, 57, 60]
def res (r : Int × Int) : D × List D := (.tup [.lit (.int .i64 r.1), .lit (.int .i64 r.2)], [])
def C (x0 : List Int) (x1 : Int) (x2 : Int) (r : Int × Int) : Prop := Ret env 75 [.sl (x0.map (eI .u32)), .lit (.int .i64 x1), .lit (.int .i64 x2), .fn 61 []] (res r).1 (res r).2
def L1 (x0 : List Int) (y11_L1 : Int) (y12_L1 : Int) (y13_L1 : Int) (y14_L1 : Int) (φ : Int × Int → Prop) : Prop := Pt env 75 W B [1, 1, 1, 1, 1, 1, 0, 1, 0, 1] [(0, .sl (x0.map (eI .u32))), (3, .fn 61 []), (11, .box [.lit (.int .i64 y11_L1)]), (12, .lit (.int .i64 y12_L1)), (13, .lit (.int .i64 y13_L1)), (14, .lit (.int .i64 y14_L1))] (Lv env 75 Try.f75 4 res φ)
def L2 (y11_L2 : Int) (y13_L2 : Int) (φ : Int × Int → Prop) : Prop := Pt env 75 W B [1, 1, 1, 1, 1, 1, 1, 0] [(11, .box [.lit (.int .i64 y11_L2)]), (13, .lit (.int .i64 y13_L2))] (Lv env 75 Try.f75 4 res φ)
theorem L1_step (x0 : List Int) (y11_L1 : Int) (y12_L1 : Int) (y13_L1 : Int) (y14_L1 : Int) (φ : Int × Int → Prop) (h :
    ∃ r4 : Int × Int, slices_medianCmpFunc_api_Set_attrset_compare.C x0 y12_L1 y13_L1 y14_L1 y11_L1 r4 ∧
    slices_choosePivotCmpFunc_api_Set_attrset_compare.L2 r4.2 r4.1 φ) : L1 x0 y11_L1 y12_L1 y13_L1 y14_L1 φ :=
 mIn <|
 mCal 6 h (fun _ h => h) fun r4 _ h =>
 mFin 2 h
theorem L2_step (y11_L2 : Int) (y13_L2 : Int) (φ : Int × Int → Prop) (h :
    (if y11_L2 = 0 then
      φ ((y13_L2, 1))
    else
      (if y11_L2 = 12 then
        φ ((y13_L2, 2))
      else
        φ ((y13_L2, 0))))) : L2 y11_L2 y13_L2 φ :=
 mIn <|
 mCon 7 h beq_t beq_f (fun h =>
 mRet 5 h) fun h =>
 mCon 4 h beq_t beq_f (fun h =>
 mRet 5 h) fun h =>
 mRet 5 h
theorem enter (x0 : List Int) (x1 : Int) (x2 : Int) (φ : Int × Int → Prop) (h :
    (if 8 ≤ (IntKind.wrap .i64 (x2 - x1)) then
      (if 50 ≤ (IntKind.wrap .i64 (x2 - x1)) then
        ∃ r1 : Int × Int, slices_medianAdjacentCmpFunc_api_Set_attrset_compare.C x0 ((IntKind.wrap .i64 (x1 + (IntKind.wrap .i64 ((IntKind.wrap .i64 (Int.tdiv (IntKind.wrap .i64 (x2 - x1)) 4)) * 1))))) 0 r1 ∧
        ∃ r2 : Int × Int, slices_medianAdjacentCmpFunc_api_Set_attrset_compare.C x0 ((IntKind.wrap .i64 (x1 + (IntKind.wrap .i64 ((IntKind.wrap .i64 (Int.tdiv (IntKind.wrap .i64 (x2 - x1)) 4)) * 2))))) r1.2 r2 ∧
        ∃ r3 : Int × Int, slices_medianAdjacentCmpFunc_api_Set_attrset_compare.C x0 ((IntKind.wrap .i64 (x1 + (IntKind.wrap .i64 ((IntKind.wrap .i64 (Int.tdiv (IntKind.wrap .i64 (x2 - x1)) 4)) * 3))))) r2.2 r3 ∧
        slices_choosePivotCmpFunc_api_Set_attrset_compare.L1 x0 r3.2 r1.1 r2.1 r3.1 φ
      else
        slices_choosePivotCmpFunc_api_Set_attrset_compare.L1 x0 0 ((IntKind.wrap .i64 (x1 + (IntKind.wrap .i64 ((IntKind.wrap .i64 (Int.tdiv (IntKind.wrap .i64 (x2 - x1)) 4)) * 1))))) ((IntKind.wrap .i64 (x1 + (IntKind.wrap .i64 ((IntKind.wrap .i64 (Int.tdiv (IntKind.wrap .i64 (x2 - x1)) 4)) * 2))))) ((IntKind.wrap .i64 (x1 + (IntKind.wrap .i64 ((IntKind.wrap .i64 (Int.tdiv (IntKind.wrap .i64 (x2 - x1)) 4)) * 3))))) φ)
    else
      slices_choosePivotCmpFunc_api_Set_attrset_compare.L2 0 ((IntKind.wrap .i64 (x1 + (IntKind.wrap .i64 ((IntKind.wrap .i64 (Int.tdiv (IntKind.wrap .i64 (x2 - x1)) 4)) * 2))))) φ)) : ∃ r, φ r ∧ C x0 x1 x2 r :=
 mEnt (fd := Try.f75) (body := B) (V := W) (res := res) <|
 mAsk 39 h dT dF (fun h =>
 mAsk 4 h dT dF (fun h =>
 mCal 6 h (fun _ h => h) fun r1 _ h =>
 mCal 6 h (fun _ h => h) fun r2 _ h =>
 mCal 6 h (fun _ h => h) fun r3 _ h =>
 mFin 2 h) fun h =>
 mFin 3 h) fun h =>
 mFin 3 h
end slices_choosePivotCmpFunc_api_Set_attrset_compare
end Go.Own

namespace Go.Own
open Go.Proofs D
set_option maxRecDepth 100000
set_option maxHeartbeats 4000000
namespace math_bits_Len64
noncomputable def B : Code := (Try.f81.body).getD .skip
def W : List Nat := [0, 2, 4, 8, 14]
def res (r : Int) : D × List D := (.lit (.int .i64 r), [])
def C (x0 : Int) (r : Int) : Prop := Ret env 81 [.lit (.int .u64 x0)] (res r).1 (res r).2
def L3 (y0_L3 : Int) (y2_L3 : Int) (φ : Int → Prop) : Prop := Pt env 81 W B [1, 1, 0, 0] [(0, .lit (.int .u64 y0_L3)), (2, .lit (.int .i64 y2_L3))] (Lv env 81 Try.f81 1 res φ)
def L2 (y0_L2 : Int) (y2_L2 : Int) (φ : Int → Prop) : Prop := Pt env 81 W B [1, 1, 1, 0, 0] [(0, .lit (.int .u64 y0_L2)), (2, .lit (.int .i64 y2_L2))] (Lv env 81 Try.f81 1 res φ)
def L1 (y0_L1 : Int) (y2_L1 : Int) (φ : Int → Prop) : Prop := Pt env 81 W B [1, 1, 1, 1, 0] [(0, .lit (.int .u64 y0_L1)), (2, .lit (.int .i64 y2_L1))] (Lv env 81 Try.f81 1 res φ)
theorem L3_step (y0_L3 : Int) (y2_L3 : Int) (φ : Int → Prop) (h :
    (if 65536 ≤ y0_L3 then
      math_bits_Len64.L2 ((shrw .u64 y0_L3 16)) ((IntKind.wrap .i64 (y2_L3 + 16))) φ
    else
      math_bits_Len64.L2 y0_L3 y2_L3 φ)) : L3 y0_L3 y2_L3 φ :=
 mIn <|
 mAsk 2 h dT dF (fun h =>
 mFin 12 h) fun h =>
 mFin 3 h
theorem L2_step (y0_L2 : Int) (y2_L2 : Int) (φ : Int → Prop) (h :
    (if 256 ≤ y0_L2 then
      math_bits_Len64.L1 ((shrw .u64 y0_L2 8)) ((IntKind.wrap .i64 (y2_L2 + 8))) φ
    else
      math_bits_Len64.L1 y0_L2 y2_L2 φ)) : L2 y0_L2 y2_L2 φ :=
 mIn <|
 mAsk 2 h dT dF (fun h =>
 mFin 12 h) fun h =>
 mFin 3 h
theorem L1_step (y0_L1 : Int) (y2_L1 : Int) (φ : Int → Prop) (h :
    ∃ b1, ((0 : Int) ≤ (IntKind.wrap .u8 y0_L1) ∧ ((⟨#[0, 1, 2, 2, 3, 3, 3, 3, 4, 4, 4, 4, 4, 4, 4, 4, 5, 5, 5, 5, 5, 5, 5, 5, 5, 5, 5, 5, 5, 5, 5, 5, 6, 6, 6, 6, 6, 6, 6, 6, 6, 6, 6, 6, 6, 6, 6, 6, 6, 6, 6, 6, 6, 6, 6, 6, 6, 6, 6, 6, 6, 6, 6, 6, 7, 7, 7, 7, 7, 7, 7, 7, 7, 7, 7, 7, 7, 7, 7, 7, 7, 7, 7, 7, 7, 7, 7, 7, 7, 7, 7, 7, 7, 7, 7, 7, 7, 7, 7, 7, 7, 7, 7, 7, 7, 7, 7, 7, 7, 7, 7, 7, 7, 7, 7, 7, 7, 7, 7, 7, 7, 7, 7, 7, 7, 7, 7, 7, 8, 8, 8, 8, 8, 8, 8, 8, 8, 8, 8, 8, 8, 8, 8, 8, 8, 8, 8, 8, 8, 8, 8, 8, 8, 8, 8, 8, 8, 8, 8, 8, 8, 8, 8, 8, 8, 8, 8, 8, 8, 8, 8, 8, 8, 8, 8, 8, 8, 8, 8, 8, 8, 8, 8, 8, 8, 8, 8, 8, 8, 8, 8, 8, 8, 8, 8, 8, 8, 8, 8, 8, 8, 8, 8, 8, 8, 8, 8, 8, 8, 8, 8, 8, 8, 8, 8, 8, 8, 8, 8, 8, 8, 8, 8, 8, 8, 8, 8, 8, 8, 8, 8, 8, 8, 8, 8, 8, 8, 8, 8, 8, 8, 8, 8, 8, 8, 8, 8, 8, 8, 8, 8, 8, 8, 8, 8, 8]⟩ : ByteArray))[((IntKind.wrap .u8 y0_L1)).toNat]? = some b1) ∧
    φ ((IntKind.wrap .i64 (y2_L1 + (IntKind.wrap .i64 (u8i b1)))))) : L1 y0_L1 y2_L1 φ :=
 mIn <|
 mSt 4 h fun b1 h =>
 mRet 4 h
theorem enter (x0 : Int) (φ : Int → Prop) (h :
    (if 4294967296 ≤ x0 then
      math_bits_Len64.L3 ((shrw .u64 x0 32)) 32 φ
    else
      math_bits_Len64.L3 x0 0 φ)) : ∃ r, φ r ∧ C x0 r :=
 mEnt (fd := Try.f81) (body := B) (V := W) (res := res) <|
 mAsk 5 h dT dF (fun h =>
 mFin 10 h) fun h =>
 mFin 3 h
end math_bits_Len64
end Go.Own

namespace Go.Own
open Go.Proofs D
set_option maxRecDepth 100000
set_option maxHeartbeats 4000000
namespace math_bits_Len
noncomputable def B : Code := (Try.f67.body).getD .skip
def W : List Nat := [0, 2]
def res (r : Int) : D × List D := (.lit (.int .i64 r), [])
def C (x0 : Int) (r : Int) : Prop := Ret env 67 [.lit (.int .u64 x0)] (res r).1 (res r).2
theorem enter (x0 : Int) (φ : Int → Prop) (h :
    ∃ r1 : Int, math_bits_Len64.C x0 r1 ∧
    φ r1) : ∃ r, φ r ∧ C x0 r :=
 mEnt (fd := Try.f67) (body := B) (V := W) (res := res) <|
 mCal 7 h (fun _ h => h) fun r1 _ h =>
 mRet 2 h
end math_bits_Len
end Go.Own

namespace Go.Own
open Go.Proofs D
set_option maxRecDepth 100000
set_option maxHeartbeats 4000000
namespace slices_nextPowerOfTwo
noncomputable def B : Code := (Try.f85.body).getD .skip
def W : List Nat := [0, 2]
def res (r : Int) : D × List D := (.lit (.int .u64 r), [])
def C (x0 : Int) (r : Int) : Prop := Ret env 85 [.lit (.int .i64 x0)] (res r).1 (res r).2
theorem enter (x0 : Int) (φ : Int → Prop) (h :
    ∃ r1 : Int, math_bits_Len.C ((IntKind.wrap .u64 x0)) r1 ∧
    0 ≤ r1 ∧
    φ ((shlw .u64 1 r1))) : ∃ r, φ r ∧ C x0 r :=
 mEnt (fd := Try.f85) (body := B) (V := W) (res := res) <|
 mCal 6 h (fun _ h => h) fun r1 _ h =>
 h.elim fun h2 h =>
 mBi 0 (bin_shl (t := 89) (q := .u64) (q' := .i64) (i1 := 1) h2) <|
 mRet 2 h
end slices_nextPowerOfTwo
end Go.Own

namespace Go.Own
open Go.Proofs D
set_option maxRecDepth 100000
set_option maxHeartbeats 4000000
namespace slices_xorshift_Next
noncomputable def B : Code := (Try.f86.body).getD .skip
def W : List Nat := [0, 2, 1000000]
def res (r : Int × Int) : D × List D := (.lit (.int .u64 r.1), [.box [.lit (.int .u64 r.2)]])
def C (k0_0 : Int) (r : Int × Int) : Prop := Ret env 86 [.box [.lit (.int .u64 k0_0)]] (res r).1 (res r).2
theorem enter (k0_0 : Int) (φ : Int × Int → Prop) (h :
    φ (((bXor .u64 (bXor .u64 (bXor .u64 k0_0 (shlw .u64 k0_0 13)) (shrw .u64 (bXor .u64 k0_0 (shlw .u64 k0_0 13)) 7)) (shlw .u64 (bXor .u64 (bXor .u64 k0_0 (shlw .u64 k0_0 13)) (shrw .u64 (bXor .u64 k0_0 (shlw .u64 k0_0 13)) 7)) 17)), (bXor .u64 (bXor .u64 (bXor .u64 k0_0 (shlw .u64 k0_0 13)) (shrw .u64 (bXor .u64 k0_0 (shlw .u64 k0_0 13)) 7)) (shlw .u64 (bXor .u64 (bXor .u64 k0_0 (shlw .u64 k0_0 13)) (shrw .u64 (bXor .u64 k0_0 (shlw .u64 k0_0 13)) 7)) 17))))) : ∃ r, φ r ∧ C k0_0 r :=
 mEnt (fd := Try.f86) (body := B) (V := W) (res := res) <|
 mRet 45 h
end slices_xorshift_Next
end Go.Own

namespace Go.Own
open Go.Proofs D
set_option maxRecDepth 100000
set_option maxHeartbeats 4000000
namespace slices_breakPatternsCmpFunc_api_Set_attrset_compare
noncomputable def B : Code := (Try.f74.body).getD .skip
def W : List Nat := [0, 1, 2, 3, 8, 9, 10, 11, 12, 17, 35, 45, 1000000]
def res (r : List Int) : D × List D := (.tup [], [.own (r.map (eI .u32))])
def C (x1 : Int) (x2 : Int) (k0_0 : List Int) (r : List Int) : Prop := Ret env 74 [.own (k0_0.map (eI .u32)), .lit (.int .i64 x1), .lit (.int .i64 x2), .fn 61 []] (res r).1 (res r).2
def L1 (x1 : Int) (y8_L1 : Int) (y9_L1 : Int) (r1 : Int) (y11_L1 : Int) (k0_0 : List Int) (φ : List Int → Prop) : Prop := Pt env 74 W B [1, 1, 0, 1, 1, 1, 0] [(0, .alias 1000000 []), (1, .lit (.int .i64 x1)), (8, .lit (.int .i64 y8_L1)), (9, .box [.lit (.int .u64 y9_L1)]), (10, .lit (.int .u64 r1)), (11, .lit (.int .i64 y11_L1)), (1000000, .own (k0_0.map (eI .u32)))] (Lv env 74 Try.f74 4 res φ)
def L2 (x1 : Int) (y8_L1 : Int) (r2 : Int × Int) (r1 : Int) (y11_L1 : Int) (y12_L2 : Int) (k0_0 : List Int) (φ : List Int → Prop) : Prop := Pt env 74 W B [1, 1, 0, 1, 1, 1, 0, 0, 1, 0, 0, 1, 1] [(0, .alias 1000000 []), (1, .lit (.int .i64 x1)), (8, .lit (.int .i64 y8_L1)), (9, .box [.lit (.int .u64 r2.2)]), (10, .lit (.int .u64 r1)), (11, .lit (.int .i64 y11_L1)), (12, .lit (.int .i64 y12_L2)), (1000000, .own (k0_0.map (eI .u32)))] (Lv env 74 Try.f74 4 res φ)
theorem L1_step (x1 : Int) (y8_L1 : Int) (y9_L1 : Int) (r1 : Int) (y11_L1 : Int) (k0_0 : List Int) (φ : List Int → Prop) (h :
    (if y11_L1 ≤ (IntKind.wrap .i64 ((IntKind.wrap .i64 (x1 + (IntKind.wrap .i64 ((IntKind.wrap .i64 (Int.tdiv y8_L1 4)) * 2)))) + 1)) then
      ∃ r2 : Int × Int, slices_xorshift_Next.C y9_L1 r2 ∧
      (if y8_L1 ≤ (IntKind.wrap .i64 (bAnd .u64 r2.1 (IntKind.wrap .u64 (r1 - 1)))) then
        slices_breakPatternsCmpFunc_api_Set_attrset_compare.L2 x1 y8_L1 r2 r1 y11_L1 ((IntKind.wrap .i64 ((IntKind.wrap .i64 (bAnd .u64 r2.1 (IntKind.wrap .u64 (r1 - 1)))) - y8_L1))) k0_0 φ
      else
        slices_breakPatternsCmpFunc_api_Set_attrset_compare.L2 x1 y8_L1 r2 r1 y11_L1 ((IntKind.wrap .i64 (bAnd .u64 r2.1 (IntKind.wrap .u64 (r1 - 1))))) k0_0 φ)
    else
      φ k0_0)) : L1 x1 y8_L1 y9_L1 r1 y11_L1 k0_0 φ :=
 mIn <|
 mAsk 9 h dT dF (fun h =>
 mCal 4 h (fun _ h => h) fun r2 _ h =>
 mAsk 9 h dT dF (fun h =>
 mFin 8 h) fun h =>
 mFin 3 h) fun h =>
 mRet 2 h
theorem L2_step (x1 : Int) (y8_L1 : Int) (r2 : Int × Int) (r1 : Int) (y11_L1 : Int) (y12_L2 : Int) (k0_0 : List Int) (φ : List Int → Prop) (h :
    ∃ a3, lget k0_0 ((IntKind.wrap .i64 (x1 + y12_L2))) = some a3 ∧
    ∃ a5, lget k0_0 y11_L1 = some a5 ∧
    ∃ a7, lget ((lset k0_0 y11_L1 a3)) ((IntKind.wrap .i64 (x1 + y12_L2))) = some a7 ∧
    slices_breakPatternsCmpFunc_api_Set_attrset_compare.L1 x1 y8_L1 r2.2 r1 ((IntKind.wrap .i64 (y11_L1 + 1))) ((lset (lset k0_0 y11_L1 a3) (IntKind.wrap .i64 (x1 + y12_L2)) a5)) φ) : L2 x1 y8_L1 r2 r1 y11_L1 y12_L2 k0_0 φ :=
 mIn <|
 mIy 11 (eI .u32) h fun a3 h4 h =>
 mLd 0 (eI .u32) h4 <|
 mIy 2 (eI .u32) h fun a5 h6 h =>
 mLd 0 (eI .u32) h6 <|
 mIyf 0 (eI .u32) h6 <|
 mStoL 0 (eI .u32) a3 h6 <|
 mIy 0 (eI .u32) h fun a7 h8 h =>
 mSto 0 (eI .u32) a5 h8 <|
 mFin 6 h
theorem enter (x1 : Int) (x2 : Int) (k0_0 : List Int) (φ : List Int → Prop) (h :
    (if 8 ≤ (IntKind.wrap .i64 (x2 - x1)) then
      ∃ r1 : Int, slices_nextPowerOfTwo.C ((IntKind.wrap .i64 (x2 - x1))) r1 ∧
      slices_breakPatternsCmpFunc_api_Set_attrset_compare.L1 x1 ((IntKind.wrap .i64 (x2 - x1))) ((IntKind.wrap .u64 (IntKind.wrap .i64 (x2 - x1)))) r1 ((IntKind.wrap .i64 ((IntKind.wrap .i64 (x1 + (IntKind.wrap .i64 ((IntKind.wrap .i64 (Int.tdiv (IntKind.wrap .i64 (x2 - x1)) 4)) * 2)))) - 1))) k0_0 φ
    else
      φ k0_0)) : ∃ r, φ r ∧ C x1 x2 k0_0 r :=
 mEnt (fd := Try.f74) (body := B) (V := W) (res := res) <|
 mAsk 8 h dT dF (fun h =>
 mCal 10 h (fun _ h => h) fun r1 _ h =>
 mFin 11 h) fun h =>
 mRet 2 h
end slices_breakPatternsCmpFunc_api_Set_attrset_compare
end Go.Own

namespace Go.Own
open Go.Proofs D
set_option maxRecDepth 100000
set_option maxHeartbeats 4000000
namespace slices_pdqsortCmpFunc_api_Set_attrset_compare
noncomputable def B : Code := (Try.f66.body).getD .skip
def W : List Nat := [0, 1, 2, 3, 4, 10, 11, 12, 13, 14, 15, 16, 17, 18, 19, 20, 25, 32, 39, 56, 75, 80, 97, 125, 1000000]
def res (r : List Int) : D × List D := (.tup [], [.own (r.map (eI .u32))])
def C (x1 : Int) (x2 : Int) (x3 : Int) (k0_0 : List Int) (r : List Int) : Prop := Ret env 66 [.own (k0_0.map (eI .u32)), .lit (.int .i64 x1), .lit (.int .i64 x2), .lit (.int .i64 x3), .fn 61 []] (res r).1 (res r).2
def L1 (x1 : Int) (x2 : Int) (x3 : Int) (y10_L1 : Bool) (y11_L1 : Bool) (k0_0 : List Int) (φ : List Int → Prop) : Prop := Pt env 66 W B [1, 1, 0] [(0, .alias 1000000 []), (1, .lit (.int .i64 x1)), (2, .lit (.int .i64 x2)), (3, .lit (.int .i64 x3)), (4, .fn 61 []), (10, .lit (.bool y10_L1)), (11, .lit (.bool y11_L1)), (1000000, .own (k0_0.map (eI .u32)))] (Lv env 66 Try.f66 5 res φ)
def L5 (x1 : Int) (x2 : Int) (x3 : Int) (y10_L1 : Bool) (y11_L1 : Bool) (k0_0 : List Int) (φ : List Int → Prop) : Prop := Pt env 66 W B [1, 1, 0, 0, 0, 1, 1, 1, 1, 0] [(0, .alias 1000000 []), (1, .lit (.int .i64 x1)), (2, .lit (.int .i64 x2)), (3, .lit (.int .i64 x3)), (4, .fn 61 []), (10, .lit (.bool y10_L1)), (11, .lit (.bool y11_L1)), (12, .lit (.int .i64 ((IntKind.wrap .i64 (x2 - x1))))), (1000000, .own (k0_0.map (eI .u32)))] (Lv env 66 Try.f66 5 res φ)
def L4 (x1 : Int) (x2 : Int) (x3 : Int) (y10_L1 : Bool) (y11_L1 : Bool) (y13_L4 : Int) (y14_L4 : Int) (r79 : List Int) (φ : List Int → Prop) : Prop := Pt env 66 W B [1, 1, 0, 0, 0, 1, 1, 1, 1, 1, 1, 0, 0] [(0, .alias 1000000 []), (1, .lit (.int .i64 x1)), (2, .lit (.int .i64 x2)), (3, .lit (.int .i64 x3)), (4, .fn 61 []), (10, .lit (.bool y10_L1)), (11, .lit (.bool y11_L1)), (12, .lit (.int .i64 ((IntKind.wrap .i64 (x2 - x1))))), (13, .lit (.int .i64 y13_L4)), (14, .lit (.int .i64 y14_L4)), (1000000, .own (r79.map (eI .u32)))] (Lv env 66 Try.f66 5 res φ)
def L3 (x1 : Int) (x2 : Int) (x3 : Int) (y10_L1 : Bool) (y11_L1 : Bool) (y13_L3 : Int) (y1000000_L3 : List Int) (φ : List Int → Prop) : Prop := Pt env 66 W B [1, 1, 0, 0, 0, 1, 1, 1, 1, 1, 1, 1, 0, 0] [(0, .alias 1000000 []), (1, .lit (.int .i64 x1)), (2, .lit (.int .i64 x2)), (3, .lit (.int .i64 x3)), (4, .fn 61 []), (10, .lit (.bool y10_L1)), (11, .lit (.bool y11_L1)), (12, .lit (.int .i64 ((IntKind.wrap .i64 (x2 - x1))))), (13, .lit (.int .i64 y13_L3)), (1000000, .own (y1000000_L3.map (eI .u32)))] (Lv env 66 Try.f66 5 res φ)
def L2 (x1 : Int) (x2 : Int) (x3 : Int) (y13_L2 : Int) (y1000000_L2 : List Int) (φ : List Int → Prop) : Prop := Pt env 66 W B [1, 1, 0, 0, 0, 1, 1, 1, 1, 1, 1, 1, 1, 0] [(0, .alias 1000000 []), (1, .lit (.int .i64 x1)), (2, .lit (.int .i64 x2)), (3, .lit (.int .i64 x3)), (4, .fn 61 []), (12, .lit (.int .i64 ((IntKind.wrap .i64 (x2 - x1))))), (13, .lit (.int .i64 y13_L2)), (1000000, .own (y1000000_L2.map (eI .u32)))] (Lv env 66 Try.f66 5 res φ)
theorem L1_step (x1 : Int) (x2 : Int) (x3 : Int) (y10_L1 : Bool) (y11_L1 : Bool) (k0_0 : List Int) (φ : List Int → Prop) (h :
    (if (IntKind.wrap .i64 (x2 - x1)) ≤ 12 then
      ∃ r100 : List Int, slices_insertionSortCmpFunc_api_Set_attrset_compare.C x1 x2 k0_0 r100 ∧
      φ r100
    else
      (if x3 = 0 then
        ∃ r101 : List Int, slices_heapSortCmpFunc_api_Set_attrset_compare.C x1 x2 k0_0 r101 ∧
        φ r101
      else
        (if y10_L1 = true then
          slices_pdqsortCmpFunc_api_Set_attrset_compare.L5 x1 x2 x3 y10_L1 y11_L1 k0_0 φ
        else
          ∃ r102 : List Int, slices_breakPatternsCmpFunc_api_Set_attrset_compare.C x1 x2 k0_0 r102 ∧
          slices_pdqsortCmpFunc_api_Set_attrset_compare.L5 x1 x2 ((IntKind.wrap .i64 (x3 - 1))) y10_L1 y11_L1 r102 φ)))) : L1 x1 x2 x3 y10_L1 y11_L1 k0_0 φ :=
 mIn <|
 mAsk 9 h dT dF (fun h =>
 mCal 7 h (fun _ h => h) (hf := (fun _ => clF_flat1 (flat_tup flts_nil) (flat_ow (e := (eI .u32)) (fun _ => rfl)))) fun r100 _ h =>
 mRet 1 h) fun h =>
 mAsk 5 h beq_t beq_f (fun h =>
 mCal 7 h (fun _ h => h) (hf := (fun _ => clF_flat1 (flat_tup flts_nil) (flat_ow (e := (eI .u32)) (fun _ => rfl)))) fun r101 _ h =>
 mRet 1 h) fun h =>
 mAsk 4 h id fls (fun h =>
 mFin 4 h) fun h =>
 mCal 8 h (fun _ h => h) (hf := (fun _ => clF_flat1 (flat_tup flts_nil) (flat_ow (e := (eI .u32)) (fun _ => rfl)))) fun r102 _ h =>
 mFin 6 h
theorem L5_step (x1 : Int) (x2 : Int) (x3 : Int) (y10_L1 : Bool) (y11_L1 : Bool) (k0_0 : List Int) (φ : List Int → Prop) (h :
    ∃ r103 : Int × Int, slices_choosePivotCmpFunc_api_Set_attrset_compare.C k0_0 x1 x2 r103 ∧
    (if r103.2 = 2 then
      ∃ r104 : List Int, slices_reverseRangeCmpFunc_api_Set_attrset_compare.C x1 x2 k0_0 r104 ∧
      slices_pdqsortCmpFunc_api_Set_attrset_compare.L4 x1 x2 x3 y10_L1 y11_L1 ((IntKind.wrap .i64 ((IntKind.wrap .i64 (x2 - 1)) - (IntKind.wrap .i64 (r103.1 - x1))))) 1 r104 φ
    else
      slices_pdqsortCmpFunc_api_Set_attrset_compare.L4 x1 x2 x3 y10_L1 y11_L1 r103.1 r103.2 k0_0 φ)) : L5 x1 x2 x3 y10_L1 y11_L1 k0_0 φ :=
 mIn <|
 mCal 5 h (fun _ h => h) (hr := by exact (pr_snap (snap_ow (s := 1000000) (ps := []) (l := k0_0) (e := (eI .u32)) (e' := (eI .u32)) (fun _ => rfl) (by kernel_rfl)) (pr_k (pr_k (pr_k pr_nil))))) (hf := (fun _ => clF_flat (flat_tup (flts_cons rfl (flts_cons rfl flts_nil))) rfl)) fun r103 _ h =>
 mAsk 8 h beq_t beq_f (fun h =>
 mCal 7 h (fun _ h => h) (hf := (fun _ => clF_flat1 (flat_tup flts_nil) (flat_ow (e := (eI .u32)) (fun _ => rfl)))) fun r104 _ h =>
 mFin 13 h) fun h =>
 mFin 3 h
theorem L4_step (x1 : Int) (x2 : Int) (x3 : Int) (y10_L1 : Bool) (y11_L1 : Bool) (y13_L4 : Int) (y14_L4 : Int) (r79 : List Int) (φ : List Int → Prop) (h :
    (if y10_L1 = true then
      (if y11_L1 = true then
        (if y14_L4 = 1 then
          ∃ r105 : Bool × List Int, slices_partialInsertionSortCmpFunc_api_Set_attrset_compare.C x1 x2 r79 r105 ∧
          (if r105.1 = true then
            φ r105.2
          else
            slices_pdqsortCmpFunc_api_Set_attrset_compare.L3 x1 x2 x3 y10_L1 y11_L1 y13_L4 r105.2 φ)
        else
          slices_pdqsortCmpFunc_api_Set_attrset_compare.L3 x1 x2 x3 y10_L1 y11_L1 y13_L4 r79 φ)
      else
        slices_pdqsortCmpFunc_api_Set_attrset_compare.L3 x1 x2 x3 y10_L1 y11_L1 y13_L4 r79 φ)
    else
      slices_pdqsortCmpFunc_api_Set_attrset_compare.L3 x1 x2 x3 y10_L1 y11_L1 y13_L4 r79 φ)) : L4 x1 x2 x3 y10_L1 y11_L1 y13_L4 y14_L4 r79 φ :=
 mIn <|
 mAsk 1 h id fls (fun h =>
 mAsk 1 h id fls (fun h =>
 mAsk 3 h beq_t beq_f (fun h =>
 mCal 8 h (fun _ h => h) (hf := (fun _ => clF_flat1 rfl (flat_ow (e := (eI .u32)) (fun _ => rfl)))) fun r105 _ h =>
 mCon 1 h id fls (fun h =>
 mRet 0 h) fun h =>
 mFin 1 h) fun h =>
 mFin 4 h) fun h =>
 mFin 8 h) fun h =>
 mFin 10 h
theorem L3_step (x1 : Int) (x2 : Int) (x3 : Int) (y10_L1 : Bool) (y11_L1 : Bool) (y13_L3 : Int) (y1000000_L3 : List Int) (φ : List Int → Prop) (h :
    (if 0 < x1 then
      ∃ a106, lget y1000000_L3 ((IntKind.wrap .i64 (x1 - 1))) = some a106 ∧
      ∃ a108, lget y1000000_L3 y13_L3 = some a108 ∧
      ∃ r110 : Int, attrset_compare.C a106 a108 r110 ∧
      (if r110 < 0 then
        slices_pdqsortCmpFunc_api_Set_attrset_compare.L2 x1 x2 x3 y13_L3 y1000000_L3 φ
      else
        ∃ r111 : Int × List Int, slices_partitionEqualCmpFunc_api_Set_attrset_compare.C x1 x2 y13_L3 y1000000_L3 r111 ∧
        slices_pdqsortCmpFunc_api_Set_attrset_compare.L1 r111.1 x2 x3 y10_L1 y11_L1 r111.2 φ)
    else
      slices_pdqsortCmpFunc_api_Set_attrset_compare.L2 x1 x2 x3 y13_L3 y1000000_L3 φ)) : L3 x1 x2 x3 y10_L1 y11_L1 y13_L3 y1000000_L3 φ :=
 mIn <|
 mAsk 2 h dT dF (fun h =>
 mIy 5 (eI .u32) h fun a106 h107 h =>
 mLd 0 (eI .u32) h107 <|
 mIy 2 (eI .u32) h fun a108 h109 h =>
 mLd 0 (eI .u32) h109 <|
 mCal 0 h (fun _ h => h) fun r110 _ h =>
 mAsk 0 h dT dF (fun h =>
 mFin 5 h) fun h =>
 mCal 10 h (fun _ h => h) (hf := (fun _ => clF_flat1 rfl (flat_ow (e := (eI .u32)) (fun _ => rfl)))) fun r111 _ h =>
 mFin 7 h) fun h =>
 mFin 18 h
theorem L2_step (x1 : Int) (x2 : Int) (x3 : Int) (y13_L2 : Int) (y1000000_L2 : List Int) (φ : List Int → Prop) (h :
    ∃ r112 : Int × Bool × List Int, slices_partitionCmpFunc_api_Set_attrset_compare.C x1 x2 y13_L2 y1000000_L2 r112 ∧
    (if (IntKind.wrap .i64 (r112.1 - x1)) < (IntKind.wrap .i64 (x2 - r112.1)) then
      ∃ r113 : List Int, slices_pdqsortCmpFunc_api_Set_attrset_compare.C x1 r112.1 x3 r112.2.2 r113 ∧
      slices_pdqsortCmpFunc_api_Set_attrset_compare.L1 ((IntKind.wrap .i64 (r112.1 + 1))) x2 x3 ((decide ((IntKind.wrap .i64 (Int.tdiv (IntKind.wrap .i64 (x2 - x1)) 8)) ≤ (IntKind.wrap .i64 (r112.1 - x1))))) r112.2.1 r113 φ
    else
      ∃ r114 : List Int, slices_pdqsortCmpFunc_api_Set_attrset_compare.C ((IntKind.wrap .i64 (r112.1 + 1))) x2 x3 r112.2.2 r114 ∧
      slices_pdqsortCmpFunc_api_Set_attrset_compare.L1 x1 r112.1 x3 ((decide ((IntKind.wrap .i64 (Int.tdiv (IntKind.wrap .i64 (x2 - x1)) 8)) ≤ (IntKind.wrap .i64 (x2 - r112.1))))) r112.2.1 r114 φ)) : L2 x1 x2 x3 y13_L2 y1000000_L2 φ :=
 mIn <|
 mCal 6 h (fun _ h => h) (hf := (fun _ => clF_flat1 (flat_tup (flts_cons rfl (flts_cons rfl flts_nil))) (flat_ow (e := (eI .u32)) (fun _ => rfl)))) fun r112 _ h =>
 mAsk 28 h dT dF (fun h =>
 mCal 14 h (fun _ h => h) (hf := (fun _ => clF_flat1 (flat_tup flts_nil) (flat_ow (e := (eI .u32)) (fun _ => rfl)))) fun r113 _ h =>
 mFin 6 h) fun h =>
 mCal 15 h (fun _ h => h) (hf := (fun _ => clF_flat1 (flat_tup flts_nil) (flat_ow (e := (eI .u32)) (fun _ => rfl)))) fun r114 _ h =>
 mFin 5 h
theorem enter (x1 : Int) (x2 : Int) (x3 : Int) (k0_0 : List Int) (φ : List Int → Prop) (h :
    slices_pdqsortCmpFunc_api_Set_attrset_compare.L1 x1 x2 x3 true true k0_0 φ) : ∃ r, φ r ∧ C x1 x2 x3 k0_0 r :=
 mEnt (fd := Try.f66) (body := B) (V := W) (res := res) <|
 mFin 6 h
end slices_pdqsortCmpFunc_api_Set_attrset_compare
end Go.Own

namespace Go.Own
open Go.Proofs D
set_option maxRecDepth 100000
set_option maxHeartbeats 4000000
namespace slices_SortFunc_sapi_Set_api_Set_attrset_compare
noncomputable def B : Code := (Try.f60.body).getD .skip
def W : List Nat := [0, 1, 4, 1000000]
def res (r : List Int) : D × List D := (.tup [], [.own (r.map (eI .u32))])
def C (k0_0 : List Int) (r : List Int) : Prop := Ret env 60 [.own (k0_0.map (eI .u32)), .fn 61 []] (res r).1 (res r).2
theorem enter (k0_0 : List Int) (φ : List Int → Prop) (h :
    ∃ r1 : Int, math_bits_Len.C ((IntKind.wrap .u64 (k0_0.length : Int))) r1 ∧
    ∃ r2 : List Int, slices_pdqsortCmpFunc_api_Set_attrset_compare.C 0 ((k0_0.length : Int)) r1 k0_0 r2 ∧
    φ r2) : ∃ r, φ r ∧ C k0_0 r :=
 mEnt (fd := Try.f60) (body := B) (V := W) (res := res) <|
 mLen 2 (eI .u32) k0_0 <|
 mCal 7 h (fun _ h => h) fun r1 _ h =>
 mCal 1 h (fun _ h => h) (hf := (fun _ => clF_flat1 (flat_tup flts_nil) (flat_ow (e := (eI .u32)) (fun _ => rfl)))) fun r2 _ h =>
 mRet 0 h
end slices_SortFunc_sapi_Set_api_Set_attrset_compare
end Go.Own

namespace Go.Own
open Go.Proofs D
set_option maxRecDepth 100000
set_option maxHeartbeats 4000000
namespace slices_Compact_sapi_Set_api_Set
noncomputable def B : Code := (Try.f62.body).getD .skip
def W : List Nat := [0, 2, 3, 4, 5, 8, 13, 25, 32, 44]
def res (r : (List Int × Bool)) : D × List D := ((sown (r.1.map (eI .u32)) r.2), [])
def C (k0_0 : List Int) (r : (List Int × Bool)) : Prop := Ret env 62 [.own (k0_0.map (eI .u32))] (res r).1 (res r).2
def L1 (k0_0 : List Int) (y3_L1 : Int) (φ : (List Int × Bool) → Prop) : Prop := Pt env 62 W B [1, 1, 0, 1, 0] [(0, .own (k0_0.map (eI .u32))), (3, .lit (.int .i64 y3_L1))] (Lv env 62 Try.f62 1 res φ)
def L2 (k0_0 : List Int) (y3_L2 : Int) (y4_o_L2 : Nat) (y4_n_L2 : Nat) (y5_L2 : Int) (φ : (List Int × Bool) → Prop) : Prop := Pt env 62 W B [1, 1, 0, 1, 0, 0, 1, 0, 0, 1, 0, 1, 0, 1, 0] [(0, .own (k0_0.map (eI .u32))), (3, .lit (.int .i64 y3_L2)), (4, .sub 0 [] y4_o_L2 y4_n_L2), (5, .lit (.int .i64 y5_L2))] (Lv env 62 Try.f62 1 res φ)
def L3 (y0_L3 : List Int) (y3_L3 : Int) (y4_o_L2 : Nat) (y4_n_L2 : Nat) (y5_L2 : Int) (φ : (List Int × Bool) → Prop) : Prop := Pt env 62 W B [1, 1, 0, 1, 0, 0, 1, 0, 0, 1, 0, 1, 0, 1, 0, 0, 1, 1] [(0, .own (y0_L3.map (eI .u32))), (3, .lit (.int .i64 y3_L3)), (4, .sub 0 [] y4_o_L2 y4_n_L2), (5, .lit (.int .i64 y5_L2))] (Lv env 62 Try.f62 1 res φ)
theorem L1_step (k0_0 : List Int) (y3_L1 : Int) (φ : (List Int × Bool) → Prop) (h :
    (if y3_L1 < (k0_0.length : Int) then
      ∃ a1, lget k0_0 y3_L1 = some a1 ∧
      ∃ a3, lget k0_0 ((IntKind.wrap .i64 (y3_L1 - 1))) = some a3 ∧
      (if a1 = a3 then
        0 ≤ y3_L1 ∧
        (y3_L1.toNat ≤ k0_0.length ∧ k0_0.length ≤ k0_0.length) ∧
        slices_Compact_sapi_Set_api_Set.L2 k0_0 y3_L1 y3_L1.toNat ((k0_0.length - y3_L1.toNat)) 1 φ
      else
        slices_Compact_sapi_Set_api_Set.L1 k0_0 ((IntKind.wrap .i64 (y3_L1 + 1))) φ)
    else
      φ (⟨k0_0, true⟩))) : L1 k0_0 y3_L1 φ :=
 mIn <|
 mLen 4 (eI .u32) k0_0 <|
 mAsk 0 h dT dF (fun h =>
 mIy 6 (eI .u32) h fun a1 h2 h =>
 mLd 0 (eI .u32) h2 <|
 mIy 3 (eI .u32) h fun a3 h4 h =>
 mLd 0 (eI .u32) h4 <|
 mAsk 0 h beq_t beq_f (fun h =>
 h.elim fun h5 h =>
 h.elim fun h6 h =>
 mVl 5 (val_slice_ow (s := 0) (ps := []) (t := 25) (x := (.tmp 26)) (lo := (some (.tmp 27))) (hi := none) (lo' := some (y3_L1).toNat) (hi' := none) (e := (eI .u32)) (l := k0_0) (et := 31) (k := 1) (by kernel_rfl) (by kernel_rfl) (elemsOf_ow (by kernel_rfl)) (optNat_some (i := y3_L1) (q := .i64) (by kernel_rfl) h5) optNat_none (by kernel_rfl) (by kernel_rfl) (fun _ => rfl) (by kernel_rfl) h6.1 h6.2) <|
 mFin 5 h) fun h =>
 mFin 8 h) fun h =>
 mRet 7 h
theorem L2_step (k0_0 : List Int) (y3_L2 : Int) (y4_o_L2 : Nat) (y4_n_L2 : Nat) (y5_L2 : Int) (φ : (List Int × Bool) → Prop) (h :
    y4_o_L2 + y4_n_L2 ≤ k0_0.length ∧
    (if y5_L2 < ((List.take y4_n_L2 (List.drop y4_o_L2 k0_0)).length : Int) then
      ∃ a10, lget k0_0 (((y4_o_L2 : Int) + y5_L2)) = some a10 ∧
      (0 ≤ y5_L2 ∧ y5_L2 < ((y4_n_L2 : Nat) : Int)) ∧
      y4_o_L2 + y4_n_L2 ≤ k0_0.length ∧
      ∃ a14, lget k0_0 (((y4_o_L2 : Int) + (IntKind.wrap .i64 (y5_L2 - 1)))) = some a14 ∧
      (0 ≤ (IntKind.wrap .i64 (y5_L2 - 1)) ∧ (IntKind.wrap .i64 (y5_L2 - 1)) < ((y4_n_L2 : Nat) : Int)) ∧
      y4_o_L2 + y4_n_L2 ≤ k0_0.length ∧
      (if a10 = a14 then
        slices_Compact_sapi_Set_api_Set.L3 k0_0 y3_L2 y4_o_L2 y4_n_L2 y5_L2 φ
      else
        (0 ≤ y5_L2 ∧ y5_L2 < ((y4_n_L2 : Nat) : Int)) ∧
        y4_o_L2 + y4_n_L2 ≤ k0_0.length ∧
        ∃ a18, lget k0_0 y3_L2 = some a18 ∧
        slices_Compact_sapi_Set_api_Set.L3 ((lset k0_0 y3_L2 a10)) ((IntKind.wrap .i64 (y3_L2 + 1))) y4_o_L2 y4_n_L2 y5_L2 φ)
    else
      0 ≤ y3_L2 ∧
      (y3_L2.toNat ≤ k0_0.length ∧ k0_0.length ≤ k0_0.length) ∧
      y3_L2.toNat + (k0_0.length - y3_L2.toNat) ≤ k0_0.length ∧
      0 ≤ y3_L2 ∧
      y3_L2.toNat + (k0_0.length - y3_L2.toNat) ≤ k0_0.length ∧
      y3_L2.toNat ≤ k0_0.length ∧
      (y3_L2.toNat + (k0_0.length - y3_L2.toNat) ≤ k0_0.length ∧ y3_L2.toNat ≤ k0_0.length ∧ y3_L2.toNat ≤ y3_L2.toNat) ∧
      φ (⟨(List.take y3_L2.toNat k0_0), (!(((List.take y3_L2.toNat k0_0)).isEmpty))⟩))) : L2 k0_0 y3_L2 y4_o_L2 y4_n_L2 y5_L2 φ :=
 mIn <|
 h.elim fun h7 h =>
 mVl 4 (val_len (x := (.tmp 30)) (t := 25) (et := 31) (d := .sub 0 [] y4_o_L2 y4_n_L2) (e := (eI .u32)) (l := (List.take y4_n_L2 (List.drop y4_o_L2 k0_0))) (by kernel_rfl) (by kernel_rfl) (elemsOf_subow (s := 0) (ps := []) (l := k0_0) (e := (eI .u32)) (by kernel_rfl) h7) (by kernel_rfl)) <|
 mAsk 0 h dT dF (fun h =>
 h.elim fun a10 h => h.elim fun h11 h =>
 h.elim fun h9 h =>
 h.elim fun h8 h =>
 mVl 6 (val_idx_subpl (s := 0) (ps := []) (off := y4_o_L2) (len := y4_n_L2) (t := 25) (x := (.tmp 35)) (ix := (.tmp 36)) (et := 31) (k := 1) (e := (eI .u32)) (l := k0_0) (i := y5_L2) (q := .i64) (a := a10) (by kernel_rfl) (by kernel_rfl) (by kernel_rfl) (by kernel_rfl) (by kernel_rfl) (by kernel_rfl) h8 h9 h11 (by kernel_rfl)) <|
 mLd 0 (eI .u32) h11 <|
 h.elim fun a14 h => h.elim fun h15 h =>
 h.elim fun h13 h =>
 h.elim fun h12 h =>
 mVl 3 (val_idx_subpl (s := 0) (ps := []) (off := y4_o_L2) (len := y4_n_L2) (t := 25) (x := (.tmp 39)) (ix := (.tmp 41)) (et := 31) (k := 1) (e := (eI .u32)) (l := k0_0) (i := (IntKind.wrap .i64 (y5_L2 - 1))) (q := .i64) (a := a14) (by kernel_rfl) (by kernel_rfl) (by kernel_rfl) (by kernel_rfl) (by kernel_rfl) (by kernel_rfl) h12 h13 h15 (by kernel_rfl)) <|
 mLd 0 (eI .u32) h15 <|
 mAskN 0 h bne_t bne_f (fun h =>
 h.elim fun h17 h =>
 h.elim fun h16 h =>
 mVl 7 (val_idx_subpl (s := 0) (ps := []) (off := y4_o_L2) (len := y4_n_L2) (t := 25) (x := (.tmp 47)) (ix := (.tmp 48)) (et := 31) (k := 1) (e := (eI .u32)) (l := k0_0) (i := y5_L2) (q := .i64) (a := a10) (by kernel_rfl) (by kernel_rfl) (by kernel_rfl) (by kernel_rfl) (by kernel_rfl) (by kernel_rfl) h16 h17 h11 (by kernel_rfl)) <|
 mLd 0 (eI .u32) h11 <|
 mIy 0 (eI .u32) h fun a18 h19 h =>
 mSto 0 (eI .u32) a10 h19 <|
 mFin 6 h) fun h =>
 mFin 3 h) fun h =>
 h.elim fun h20 h =>
 h.elim fun h21 h =>
 mVl 6 (val_slice_ow (s := 0) (ps := []) (t := 25) (x := (.tmp 54)) (lo := (some (.tmp 55))) (hi := none) (lo' := some (y3_L2).toNat) (hi' := none) (e := (eI .u32)) (l := k0_0) (et := 31) (k := 1) (by kernel_rfl) (by kernel_rfl) (elemsOf_ow (by kernel_rfl)) (optNat_some (i := y3_L2) (q := .i64) (by kernel_rfl) h20) optNat_none (by kernel_rfl) (by kernel_rfl) (fun _ => rfl) (by kernel_rfl) h21.1 h21.2) <|
 h.elim fun h22 h =>
 mOp 0 (op_clear (t := 25) (x := (.tmp 56)) (s := 0) (ps := []) (off := y3_L2.toNat) (len := (k0_0.length - y3_L2.toNat)) (l := k0_0) (e := (eI .u32)) (et := 31) (z := .lit (.int .u32 0)) (k := 1) (by kernel_rfl) (by kernel_rfl) (by kernel_rfl) (by kernel_rfl) (by kernel_rfl) (by kernel_rfl) (by kernel_rfl) (by kernel_rfl) (fun _ => rfl) h22 (by kernel_rfl)) <|
 h.elim fun h23 h =>
 h.elim fun h24 h =>
 h.elim fun h25 h =>
 mVl 4 (val_slice_clr (t := 25) (x := (.tmp 57)) (hi := (some (.tmp 58))) (hi' := y3_L2.toNat) (e := (eI .u32)) (l := k0_0) (off := y3_L2.toNat) (len := (k0_0.length - y3_L2.toNat)) (z := .lit (.int .u32 0)) (et := 31) (k := 1) (s := 0) (ps := []) (by kernel_rfl) (by kernel_rfl) (by kernel_rfl) (optNat_some (i := y3_L2) (q := .i64) (by kernel_rfl) h23) (by kernel_rfl) (by kernel_rfl) (fun _ => rfl) (by kernel_rfl) (by kernel_rfl) h24 h25) <|
 h.elim fun h26 h =>
 mRet 2 h (hl := (leave_sub (t := 2) (s := 0) (n := y3_L2.toNat) (m := (List.take y3_L2.toNat k0_0)) (e := (eI .u32)) (es := clr (eI .u32) k0_0 y3_L2.toNat (k0_0.length - y3_L2.toNat) (.lit (.int .u32 0))) (by kernel_rfl) (by kernel_rfl) (by kernel_rfl) (by rw [clr_len (by first | exact h26.1 | omega)]; exact h26.2.1) (clr_take h26.1 h26.2.2) (by kernel_rfl)))
theorem L3_step (y0_L3 : List Int) (y3_L3 : Int) (y4_o_L2 : Nat) (y4_n_L2 : Nat) (y5_L2 : Int) (φ : (List Int × Bool) → Prop) (h :
    slices_Compact_sapi_Set_api_Set.L2 y0_L3 y3_L3 y4_o_L2 y4_n_L2 ((IntKind.wrap .i64 (y5_L2 + 1))) φ) : L3 y0_L3 y3_L3 y4_o_L2 y4_n_L2 y5_L2 φ :=
 mIn <|
 mFin 5 h
theorem enter (k0_0 : List Int) (φ : (List Int × Bool) → Prop) (h :
    (if (k0_0.length : Int) < 2 then
      φ (⟨k0_0, true⟩)
    else
      slices_Compact_sapi_Set_api_Set.L1 k0_0 1 φ)) : ∃ r, φ r ∧ C k0_0 r :=
 mEnt (fd := Try.f62) (body := B) (V := W) (res := res) <|
 mLen 5 (eI .u32) k0_0 <|
 mAsk 0 h dT dF (fun h =>
 mRet 6 h) fun h =>
 mFin 6 h
end slices_Compact_sapi_Set_api_Set
end Go.Own

namespace Go.Own
open Go.Proofs D
set_option maxRecDepth 100000
set_option maxHeartbeats 4000000
namespace drossref02_Has
noncomputable def B : Code := (Try.f31.body).getD .skip
def W : List Nat := [0, 1, 4]
def res (r : Bool) : D × List D := (.lit (.bool r), [])
def C (x0 : Int) (x1 : Int) (r : Bool) : Prop := Ret env 31 [.lit (.int .u32 x0), .lit (.int .i64 x1)] (res r).1 (res r).2
theorem enter (x0 : Int) (x1 : Int) (φ : Bool → Prop) (h :
    (if 0 ≤ x1 then
      (if x1 < 32 then
        0 ≤ x1 ∧
        φ (((bAnd .u32 (shrw .u32 x0 x1) 1) == 1))
      else
        φ false)
    else
      φ false)) : ∃ r, φ r ∧ C x0 x1 r :=
 mEnt (fd := Try.f31) (body := B) (V := W) (res := res) <|
 mAsk 5 h dT dF (fun h =>
 mAsk 2 h dT dF (fun h =>
 h.elim fun h1 h =>
 mBi 4 (bin_shr (t := 31) (q := .u32) (q' := .i64) (i1 := x0) h1) <|
 mRet 5 h) fun h =>
 mRet 10 h) fun h =>
 mRet 13 h
end drossref02_Has
end Go.Own

namespace Go.Own
open Go.Proofs D
set_option maxRecDepth 100000
set_option maxHeartbeats 4000000
namespace drossref02_Members
noncomputable def B : Code := (Try.f58.body).getD .skip
def W : List Nat := [0, 2, 3, 4, 6, 11]
def res (r : List Int) : D × List D := (.own (r.map (eI .i64)), [])
def C (x0 : Int) (r : List Int) : Prop := Ret env 58 [.lit (.int .u32 x0)] (res r).1 (res r).2
def L1 (x0 : Int) (y3_L1 : List Int) (y4_L1 : Int) (φ : List Int → Prop) : Prop := Pt env 58 W B [1, 1, 0, 1, 0] [(0, .lit (.int .u32 x0)), (3, .own (y3_L1.map (eI .i64))), (4, .lit (.int .i64 y4_L1))] (Lv env 58 Try.f58 1 res φ)
def L2 (x0 : Int) (y3_L2 : List Int) (y4_L1 : Int) (φ : List Int → Prop) : Prop := Pt env 58 W B [1, 1, 0, 1, 0, 0, 1, 1] [(0, .lit (.int .u32 x0)), (3, .own (y3_L2.map (eI .i64))), (4, .lit (.int .i64 y4_L1))] (Lv env 58 Try.f58 1 res φ)
theorem L1_step (x0 : Int) (y3_L1 : List Int) (y4_L1 : Int) (φ : List Int → Prop) (h :
    (if y4_L1 < 32 then
      ∃ r1 : Bool, drossref02_Has.C x0 y4_L1 r1 ∧
      (if r1 = true then
        (y3_L1.length + 1) * 8 ≤ 140737488355328 ∧
        drossref02_Members.L2 x0 ((y3_L1 ++ [y4_L1])) y4_L1 φ
      else
        drossref02_Members.L2 x0 y3_L1 y4_L1 φ)
    else
      φ y3_L1)) : L1 x0 y3_L1 y4_L1 φ :=
 mIn <|
 mAsk 3 h dT dF (fun h =>
 mCalB 6 h (fun _ h => h) (fun _ h =>
 mApp 6 (eI .i64) y3_L1 ([y4_L1]) h fun h =>
 mFin 2 h) fun _ h =>
 mFin 3 h) fun h =>
 mRet 7 h
theorem L2_step (x0 : Int) (y3_L2 : List Int) (y4_L1 : Int) (φ : List Int → Prop) (h :
    drossref02_Members.L1 x0 y3_L2 ((IntKind.wrap .i64 (y4_L1 + 1))) φ) : L2 x0 y3_L2 y4_L1 φ :=
 mIn <|
 mFin 5 h
theorem enter (x0 : Int) (φ : List Int → Prop) (h :
    drossref02_Members.L1 x0 ([]) 0 φ) : ∃ r, φ r ∧ C x0 r :=
 mEnt (fd := Try.f58) (body := B) (V := W) (res := res) <|
 mFin 9 h
end drossref02_Members
end Go.Own

namespace Go.Own
open Go.Proofs D
set_option maxRecDepth 100000
set_option maxHeartbeats 4000000
namespace attrset_Order
noncomputable def B : Code := (Try.f51.body).getD .skip
def W : List Nat := [0, 2, 3]
def res (r : List Int) : D × List D := (.sl (r.map (eI .u32)), [])
def C (x0 : List Int) (r : List Int) : Prop := Ret env 51 [.sl (x0.map (eI .u32))] (res r).1 (res r).2
theorem enter (x0 : List Int) (φ : List Int → Prop) (h :
    x0.length * 4 ≤ 140737488355328 ∧
    ∃ r2 : List Int, slices_SortFunc_sapi_Set_api_Set_attrset_compare.C x0 r2 ∧
    ∃ r3 : (List Int × Bool), slices_Compact_sapi_Set_api_Set.C r2 r3 ∧
    φ r3.1) : ∃ r, φ r ∧ C x0 r :=
 mEnt (fd := Try.f51) (body := B) (V := W) (res := res) <|
 h.elim fun h1 h =>
 mCalP 5 (show Ret env 53 [.sl (x0.map (eI .u32))] (.own (x0.map (eI .u32))) [] from ret_clone (k := 1) (b := 4) (e := (eI .u32)) (l := x0) (by kernel_rfl) (fun _ => rfl) h1) (hf := (clF_flat (flat_ow (e := (eI .u32)) (fun _ => rfl)) rfl)) <|
 mCal 4 h (fun _ h => h) (hf := (fun _ => clF_flat1 (flat_tup flts_nil) (flat_ow (e := (eI .u32)) (fun _ => rfl)))) fun r2 _ h =>
 mCalE 3 h (fun _ h => h) (fun r3 => cold_sown (l := r3.1) (e := (eI .u32)) rfl (fun _ => rfl)) (hf := (fun _ => clF_flatR (flat_sown (e := (eI .u32)) (fun _ => rfl)) rfl)) fun r3 _ h =>
 mRet 2 h
end attrset_Order
end Go.Own

namespace Go.Own
open Go.Proofs D
set_option maxRecDepth 100000
set_option maxHeartbeats 4000000
namespace drossref02_Size
noncomputable def B : Code := (Try.f49.body).getD .skip
def W : List Nat := [0, 2]
def res (r : Int) : D × List D := (.lit (.int .i64 r), [])
def C (x0 : Int) (r : Int) : Prop := Ret env 49 [.lit (.int .u32 x0)] (res r).1 (res r).2
theorem enter (x0 : Int) (φ : Int → Prop) (h :
    ∃ r1 : List Int, drossref02_Members.C x0 r1 ∧
    φ ((r1.length : Int))) : ∃ r, φ r ∧ C x0 r :=
 mEnt (fd := Try.f49) (body := B) (V := W) (res := res) <|
 mCal 5 h (fun _ h => h) (hf := (fun _ => clF_flat (flat_ow (e := (eI .i64)) (fun _ => rfl)) rfl)) fun r1 _ h =>
 mLen 0 (eI .i64) r1 <|
 mRet 2 h
end drossref02_Size
end Go.Own

namespace Go.Own
open Go.Proofs D
set_option maxRecDepth 100000
set_option maxHeartbeats 4000000
namespace drossref02_Before
noncomputable def B : Code := (Try.f40.body).getD .skip
def W : List Nat := [0, 1, 4, 9]
def res (r : Bool) : D × List D := (.lit (.bool r), [])
def C (x0 : Int) (x1 : Int) (r : Bool) : Prop := Ret env 40 [.lit (.int .u32 x0), .lit (.int .u32 x1)] (res r).1 (res r).2
theorem enter (x0 : Int) (x1 : Int) (φ : Bool → Prop) (h :
    ∃ r1 : Int, drossref02_Size.C x0 r1 ∧
    ∃ r2 : Int, drossref02_Size.C x1 r2 ∧
    (if r1 = r2 then
      φ ((decide (x0 < x1)))
    else
      ∃ r3 : Int, drossref02_Size.C x0 r3 ∧
      ∃ r4 : Int, drossref02_Size.C x1 r4 ∧
      φ ((decide (r3 < r4))))) : ∃ r, φ r ∧ C x0 x1 r :=
 mEnt (fd := Try.f40) (body := B) (V := W) (res := res) <|
 mCal 5 h (fun _ h => h) fun r1 _ h =>
 mCal 1 h (fun _ h => h) fun r2 _ h =>
 mAskN 0 h bne_t bne_f (fun h =>
 mCal 4 h (fun _ h => h) fun r3 _ h =>
 mCal 1 h (fun _ h => h) fun r4 _ h =>
 mRet 3 h) fun h =>
 mRet 9 h
end drossref02_Before
end Go.Own

namespace Go.Own
open Go.Proofs D
set_option maxRecDepth 100000
set_option maxHeartbeats 4000000
namespace drossref02_In
noncomputable def B : Code := (Try.f39.body).getD .skip
def W : List Nat := [0, 1, 4, 5, 9, 17]
def res (r : Bool) : D × List D := (.lit (.bool r), [])
def C (x0 : List Int) (x1 : Int) (r : Bool) : Prop := Ret env 39 [.sl (x0.map (eI .u32)), .lit (.int .u32 x1)] (res r).1 (res r).2
def L1 (x0 : List Int) (x1 : Int) (y5_L1 : Int) (φ : Bool → Prop) : Prop := Pt env 39 W B [1, 0, 1, 0] [(0, .sl (x0.map (eI .u32))), (1, .lit (.int .u32 x1)), (5, .lit (.int .i64 y5_L1))] (Lv env 39 Try.f39 2 res φ)
theorem L1_step (x0 : List Int) (x1 : Int) (y5_L1 : Int) (φ : Bool → Prop) (h :
    (if y5_L1 < (x0.length : Int) then
      ∃ a1, lget x0 y5_L1 = some a1 ∧
      (if a1 = x1 then
        φ true
      else
        drossref02_In.L1 x0 x1 ((IntKind.wrap .i64 (y5_L1 + 1))) φ)
    else
      φ false)) : L1 x0 x1 y5_L1 φ :=
 mIn <|
 mLen 4 (eI .u32) x0 <|
 mAsk 0 h dT dF (fun h =>
 mIx 6 (eI .u32) h fun a1 h2 h =>
 mAsk 2 h beq_t beq_f (fun h =>
 mRet 5 h) fun h =>
 mFin 8 h) fun h =>
 mRet 6 h
theorem enter (x0 : List Int) (x1 : Int) (φ : Bool → Prop) (h :
    drossref02_In.L1 x0 x1 0 φ) : ∃ r, φ r ∧ C x0 x1 r :=
 mEnt (fd := Try.f39) (body := B) (V := W) (res := res) <|
 mFin 6 h
end drossref02_In
end Go.Own

namespace Go.Own
open Go.Proofs D
set_option maxRecDepth 100000
set_option maxHeartbeats 4000000
namespace drossref02_Order
noncomputable def B : Code := (Try.f24.body).getD .skip
def W : List Nat := [0, 2, 3, 4, 5, 9, 17, 41]
def res (r : List Int) : D × List D := (.own (r.map (eI .u32)), [])
def C (x0 : List Int) (r : List Int) : Prop := Ret env 24 [.sl (x0.map (eI .u32))] (res r).1 (res r).2
def L1 (x0 : List Int) (y3_L1 : List Int) (y4_L1 : Int) (φ : List Int → Prop) : Prop := Pt env 24 W B [1, 1, 0, 1, 0] [(0, .sl (x0.map (eI .u32))), (3, .own (y3_L1.map (eI .u32))), (4, .lit (.int .i64 y4_L1))] (Lv env 24 Try.f24 1 res φ)
def L3 (x0 : List Int) (y3_L3 : List Int) (y4_L1 : Int) (φ : List Int → Prop) : Prop := Pt env 24 W B [1, 1, 0, 1, 0, 0, 1, 1] [(0, .sl (x0.map (eI .u32))), (3, .own (y3_L3.map (eI .u32))), (4, .lit (.int .i64 y4_L1))] (Lv env 24 Try.f24 1 res φ)
def L2 (x0 : List Int) (y3_L2 : List Int) (y4_L1 : Int) (y5_L2 : Int) (φ : List Int → Prop) : Prop := Pt env 24 W B [1, 1, 0, 1, 0, 0, 1, 0, 0, 1, 1, 1, 0] [(0, .sl (x0.map (eI .u32))), (3, .own (y3_L2.map (eI .u32))), (4, .lit (.int .i64 y4_L1)), (5, .lit (.int .i64 y5_L2))] (Lv env 24 Try.f24 1 res φ)
theorem L1_step (x0 : List Int) (y3_L1 : List Int) (y4_L1 : Int) (φ : List Int → Prop) (h :
    (if y4_L1 < (x0.length : Int) then
      ∃ a1, lget x0 y4_L1 = some a1 ∧
      ∃ r3 : Bool, drossref02_In.C y3_L1 a1 r3 ∧
      (if r3 = true then
        drossref02_Order.L3 x0 y3_L1 y4_L1 φ
      else
        (y3_L1.length + 1) * 4 ≤ 140737488355328 ∧
        drossref02_Order.L2 x0 ((y3_L1 ++ [a1])) y4_L1 ((IntKind.wrap .i64 (((y3_L1 ++ [a1]).length : Int) - 1))) φ)
    else
      φ y3_L1)) : L1 x0 y3_L1 y4_L1 φ :=
 mIn <|
 mLen 4 (eI .u32) x0 <|
 mAsk 0 h dT dF (fun h =>
 mIx 7 (eI .u32) h fun a1 h2 h =>
 mCalB 1 h (fun _ h => h) (hr := by exact (pr_snap (snap_ow (s := 3) (ps := []) (l := y3_L1) (e := (eI .u32)) (e' := (eI .u32)) (fun _ => rfl) (by kernel_rfl)) (pr_k pr_nil))) (fun _ h =>
 mFin 3 h) fun _ h =>
 mIxf 7 (eI .u32) h2 <|
 mApp 2 (eI .u32) y3_L1 ([a1]) h fun h =>
 mLen 4 (eI .u32) ((y3_L1 ++ [a1])) <|
 mFin 3 h) fun h =>
 mRet 7 h
theorem L3_step (x0 : List Int) (y3_L3 : List Int) (y4_L1 : Int) (φ : List Int → Prop) (h :
    drossref02_Order.L1 x0 y3_L3 ((IntKind.wrap .i64 (y4_L1 + 1))) φ) : L3 x0 y3_L3 y4_L1 φ :=
 mIn <|
 mFin 5 h
theorem L2_step (x0 : List Int) (y3_L2 : List Int) (y4_L1 : Int) (y5_L2 : Int) (φ : List Int → Prop) (h :
    (if 0 < y5_L2 then
      ∃ a5, lget y3_L2 y5_L2 = some a5 ∧
      ∃ a7, lget y3_L2 ((IntKind.wrap .i64 (y5_L2 - 1))) = some a7 ∧
      ∃ r9 : Bool, drossref02_Before.C a5 a7 r9 ∧
      (if r9 = true then
        ∃ a10, lget ((lset y3_L2 y5_L2 a7)) ((IntKind.wrap .i64 (y5_L2 - 1))) = some a10 ∧
        drossref02_Order.L2 x0 ((lset (lset y3_L2 y5_L2 a7) (IntKind.wrap .i64 (y5_L2 - 1)) a5)) y4_L1 ((IntKind.wrap .i64 (y5_L2 - 1))) φ
      else
        drossref02_Order.L3 x0 y3_L2 y4_L1 φ)
    else
      drossref02_Order.L3 x0 y3_L2 y4_L1 φ)) : L2 x0 y3_L2 y4_L1 y5_L2 φ :=
 mIn <|
 mAsk 3 h dT dF (fun h =>
 mIy 3 (eI .u32) h fun a5 h6 h =>
 mLd 0 (eI .u32) h6 <|
 mIy 3 (eI .u32) h fun a7 h8 h =>
 mLd 0 (eI .u32) h8 <|
 mCalB 0 h (fun _ h => h) (fun _ h =>
 mIyf 13 (eI .u32) h8 <|
 mLd 0 (eI .u32) h8 <|
 mIyf 2 (eI .u32) h6 <|
 mLd 0 (eI .u32) h6 <|
 mIyf 0 (eI .u32) h6 <|
 mStoL 0 (eI .u32) a7 h6 <|
 mIy 0 (eI .u32) h fun a10 h11 h =>
 mSto 0 (eI .u32) a5 h11 <|
 mFin 6 h) fun _ h =>
 mFin 4 h) fun h =>
 mFin 15 h
theorem enter (x0 : List Int) (φ : List Int → Prop) (h :
    drossref02_Order.L1 x0 ([]) 0 φ) : ∃ r, φ r ∧ C x0 r :=
 mEnt (fd := Try.f24) (body := B) (V := W) (res := res) <|
 mFin 9 h
end drossref02_Order
end Go.Own

namespace Go.Own
open Go.Proofs D
set_option maxRecDepth 100000
set_option maxHeartbeats 4000000
namespace drossref02_Same
noncomputable def B : Code := (Try.f14.body).getD .skip
def W : List Nat := [0, 1, 4, 5, 10, 14, 25]
def res (r : Bool) : D × List D := (.lit (.bool r), [])
def C (x0 : List Int) (x1 : List Int) (r : Bool) : Prop := Ret env 14 [.sl (x0.map (eI .u32)), .sl (x1.map (eI .u32))] (res r).1 (res r).2
def L1 (x0 : List Int) (x1 : List Int) (y5_L1 : Int) (φ : Bool → Prop) : Prop := Pt env 14 W B [1, 1, 0, 1, 0] [(0, .sl (x0.map (eI .u32))), (1, .sl (x1.map (eI .u32))), (5, .lit (.int .i64 y5_L1))] (Lv env 14 Try.f14 2 res φ)
theorem L1_step (x0 : List Int) (x1 : List Int) (y5_L1 : Int) (φ : Bool → Prop) (h :
    (if y5_L1 < (x0.length : Int) then
      ∃ a1, lget x0 y5_L1 = some a1 ∧
      ∃ a3, lget x1 y5_L1 = some a3 ∧
      (if a1 = a3 then
        drossref02_Same.L1 x0 x1 ((IntKind.wrap .i64 (y5_L1 + 1))) φ
      else
        φ false)
    else
      φ true)) : L1 x0 x1 y5_L1 φ :=
 mIn <|
 mLen 4 (eI .u32) x0 <|
 mAsk 0 h dT dF (fun h =>
 mIx 6 (eI .u32) h fun a1 h2 h =>
 mIx 3 (eI .u32) h fun a3 h4 h =>
 mAskN 1 h bne_t bne_f (fun h =>
 mRet 5 h) fun h =>
 mFin 8 h) fun h =>
 mRet 6 h
theorem enter (x0 : List Int) (x1 : List Int) (φ : Bool → Prop) (h :
    (if (x0.length : Int) = (x1.length : Int) then
      drossref02_Same.L1 x0 x1 0 φ
    else
      φ false)) : ∃ r, φ r ∧ C x0 x1 r :=
 mEnt (fd := Try.f14) (body := B) (V := W) (res := res) <|
 mLen 5 (eI .u32) x0 <|
 mLen 1 (eI .u32) x1 <|
 mAskN 0 h bne_t bne_f (fun h =>
 mRet 5 h) fun h =>
 mFin 6 h
end drossref02_Same
end Go.Own

namespace Go.Own
open Go.Proofs D
set_option maxRecDepth 100000
set_option maxHeartbeats 4000000
namespace attrset_Subsets
noncomputable def B : Code := (Try.f42.body).getD .skip
def W : List Nat := [0, 2, 3, 4, 7, 12]
def res (r : List Int) : D × List D := (.sl (r.map (eI .u32)), [])
def C (x0 : Int) (r : List Int) : Prop := Ret env 42 [.lit (.int .u32 x0)] (res r).1 (res r).2
def L1 (x0 : Int) (y3_L1 : List Int) (y4_L1 : Int) (φ : List Int → Prop) : Prop := Pt env 42 W B [1, 1, 1, 0, 1, 0] [(0, .lit (.int .u32 x0)), (3, .own (y3_L1.map (eI .u32))), (4, .lit (.int .u32 y4_L1))] (Lv env 42 Try.f42 1 res φ)
theorem L1_step (x0 : Int) (y3_L1 : List Int) (y4_L1 : Int) (φ : List Int → Prop) (h :
    (if y4_L1 = 0 then
      ∃ r3 : List Int, attrset_Order.C y3_L1 r3 ∧
      φ r3
    else
      (y3_L1.length + 1) * 4 ≤ 140737488355328 ∧
      attrset_Subsets.L1 x0 ((y3_L1 ++ [(bAnd .u32 (IntKind.wrap .u32 (y4_L1 - 1)) x0)])) ((bAnd .u32 (IntKind.wrap .u32 (y4_L1 - 1)) x0)) φ)) : L1 x0 y3_L1 y4_L1 φ :=
 mIn <|
 mAskN 3 h bne_t bne_f (fun h =>
 mApp 14 (eI .u32) y3_L1 ([(bAnd .u32 (IntKind.wrap .u32 (y4_L1 - 1)) x0)]) h fun h =>
 mFin 2 h) fun h =>
 mXit 2 [(3, .sl (y3_L1.map (eI .u32)))] (trim_chillW (F0 := [(3, .own (y3_L1.map (eI .u32)))]) (l := y3_L1) (e := (eI .u32)) (e' := (eI .u32)) (s := 3) (by kernel_rfl) (by kernel_rfl) (by kernel_rfl) (fun _ => rfl) (by kernel_rfl) (by kernel_rfl)) <|
 mCal 2 h (fun _ h => h) (hf := (fun _ => clF_both)) fun r3 _ h =>
 mRet 2 h
theorem enter (x0 : Int) (φ : List Int → Prop) (h :
    ∃ r1 : Int, attrset_Size.C x0 r1 ∧
    (if 12 < r1 then
      φ ([])
    else
      attrset_Subsets.L1 x0 ([x0]) x0 φ)) : ∃ r, φ r ∧ C x0 r :=
 mEnt (fd := Try.f42) (body := B) (V := W) (res := res) <|
 mCal 5 h (fun _ h => h) fun r1 _ h =>
 mAsk 0 h dT dF (fun h =>
 mRet 5 h) fun h =>
 mFin 12 h
end attrset_Subsets
end Go.Own

namespace Go.Own
open Go.Proofs D
set_option maxRecDepth 100000
set_option maxHeartbeats 4000000
namespace closure_Close
noncomputable def B : Code := (Try.f29.body).getD .skip
def W : List Nat := [0, 1, 4, 5, 7, 9, 10, 11, 12, 19, 27]
def res (r : Int) : D × List D := (.lit (.int .u32 r), [])
def C (x0 : List api_FD) (x1 : Int) (r : Int) : Prop := Ret env 29 [.sl (x0.map enc_api_FD), .lit (.int .u32 x1)] (res r).1 (res r).2
def L1 (x0 : List api_FD) (x1 : Int) (φ : Int → Prop) : Prop := Pt env 29 W B [1, 0] [(0, .sl (x0.map enc_api_FD)), (1, .lit (.int .u32 x1))] (Lv env 29 Try.f29 2 res φ)
def L2 (x0 : List api_FD) (x1 : Int) (y5_L2 : Int) (y11_L2 : Int) (φ : Int → Prop) : Prop := Pt env 29 W B [1, 0, 0, 0, 1, 0, 1, 0] [(0, .sl (x0.map enc_api_FD)), (1, .lit (.int .u32 x1)), (5, .lit (.int .u32 y5_L2)), (9, .sl (x0.map enc_api_FD)), (10, .lit (.int .i64 ((x0.length : Int)))), (11, .lit (.int .i64 y11_L2))] (Lv env 29 Try.f29 2 res φ)
def L3 (x0 : List api_FD) (y1_L3 : Int) (y5_L2 : Int) (y11_L2 : Int) (φ : Int → Prop) : Prop := Pt env 29 W B [1, 0, 0, 0, 1, 0, 1, 0, 0, 1, 1, 1] [(0, .sl (x0.map enc_api_FD)), (1, .lit (.int .u32 y1_L3)), (5, .lit (.int .u32 y5_L2)), (9, .sl (x0.map enc_api_FD)), (10, .lit (.int .i64 ((x0.length : Int)))), (11, .lit (.int .i64 y11_L2))] (Lv env 29 Try.f29 2 res φ)
theorem L1_step (x0 : List api_FD) (x1 : Int) (φ : Int → Prop) (h :
    closure_Close.L2 x0 x1 x1 0 φ) : L1 x0 x1 φ :=
 mIn <|
 mLen 7 enc_api_FD x0 <|
 mFin 2 h
theorem L2_step (x0 : List api_FD) (x1 : Int) (y5_L2 : Int) (y11_L2 : Int) (φ : Int → Prop) (h :
    (if y11_L2 < (x0.length : Int) then
      ∃ a1, lget x0 y11_L2 = some a1 ∧
      (if (bAndNot .u32 a1.Lhs x1) = 0 then
        closure_Close.L3 x0 ((bOr .u32 x1 a1.Rhs)) y5_L2 y11_L2 φ
      else
        closure_Close.L3 x0 x1 y5_L2 y11_L2 φ)
    else
      (if x1 = y5_L2 then
        φ x1
      else
        closure_Close.L1 x0 x1 φ))) : L2 x0 x1 y5_L2 y11_L2 φ :=
 mIn <|
 mAsk 2 h dT dF (fun h =>
 mIx 4 enc_api_FD h fun a1 h2 h =>
 mAsk 9 h beq_t beq_f (fun h =>
 mFin 9 h) fun h =>
 mFin 3 h) fun h =>
 mAsk 6 h beq_t beq_f (fun h =>
 mRet 6 h) fun h =>
 mFin 3 h
theorem L3_step (x0 : List api_FD) (y1_L3 : Int) (y5_L2 : Int) (y11_L2 : Int) (φ : Int → Prop) (h :
    closure_Close.L2 x0 y1_L3 y5_L2 ((IntKind.wrap .i64 (y11_L2 + 1))) φ) : L3 x0 y1_L3 y5_L2 y11_L2 φ :=
 mIn <|
 mFin 4 h
theorem enter (x0 : List api_FD) (x1 : Int) (φ : Int → Prop) (h :
    closure_Close.L1 x0 x1 φ) : ∃ r, φ r ∧ C x0 x1 r :=
 mEnt (fd := Try.f29) (body := B) (V := W) (res := res) <|
 mFin 3 h
end closure_Close
end Go.Own

namespace Go.Own
open Go.Proofs D
set_option maxRecDepth 100000
set_option maxHeartbeats 4000000
namespace drossref09_Close
noncomputable def B : Code := (Try.f32.body).getD .skip
def W : List Nat := [0, 1, 4, 5, 6, 11, 20, 30]
def res (r : Int) : D × List D := (.lit (.int .u32 r), [])
def C (x0 : List api_FD) (x1 : Int) (r : Int) : Prop := Ret env 32 [.sl (x0.map enc_api_FD), .lit (.int .u32 x1)] (res r).1 (res r).2
def L1 (x0 : List api_FD) (x1 : Int) (φ : Int → Prop) : Prop := Pt env 32 W B [1, 0] [(0, .sl (x0.map enc_api_FD)), (1, .lit (.int .u32 x1))] (Lv env 32 Try.f32 2 res φ)
def L2 (x0 : List api_FD) (x1 : Int) (y5_L2 : Int) (y6_L2 : Int) (φ : Int → Prop) : Prop := Pt env 32 W B [1, 0, 0, 0, 1, 0, 1, 0] [(0, .sl (x0.map enc_api_FD)), (1, .lit (.int .u32 x1)), (5, .lit (.int .u32 y5_L2)), (6, .lit (.int .i64 y6_L2))] (Lv env 32 Try.f32 2 res φ)
def L3 (x0 : List api_FD) (y1_L3 : Int) (y5_L2 : Int) (y6_L2 : Int) (φ : Int → Prop) : Prop := Pt env 32 W B [1, 0, 0, 0, 1, 0, 1, 0, 0, 1, 1] [(0, .sl (x0.map enc_api_FD)), (1, .lit (.int .u32 y1_L3)), (5, .lit (.int .u32 y5_L2)), (6, .lit (.int .i64 y6_L2))] (Lv env 32 Try.f32 2 res φ)
theorem L1_step (x0 : List api_FD) (x1 : Int) (φ : Int → Prop) (h :
    drossref09_Close.L2 x0 x1 x1 0 φ) : L1 x0 x1 φ :=
 mIn <|
 mFin 8 h
theorem L2_step (x0 : List api_FD) (x1 : Int) (y5_L2 : Int) (y6_L2 : Int) (φ : Int → Prop) (h :
    (if y6_L2 < (x0.length : Int) then
      ∃ a1, lget x0 y6_L2 = some a1 ∧
      ∃ r3 : Bool, drossref02_Sub.C a1.Lhs x1 r3 ∧
      (if r3 = true then
        drossref09_Close.L3 x0 ((bOr .u32 x1 a1.Rhs)) y5_L2 y6_L2 φ
      else
        drossref09_Close.L3 x0 x1 y5_L2 y6_L2 φ)
    else
      (if x1 = y5_L2 then
        φ x1
      else
        drossref09_Close.L1 x0 x1 φ))) : L2 x0 x1 y5_L2 y6_L2 φ :=
 mIn <|
 mLen 4 enc_api_FD x0 <|
 mAsk 0 h dT dF (fun h =>
 mIx 6 enc_api_FD h fun a1 h2 h =>
 mCalB 3 h (fun _ h => h) (fun _ h =>
 mIxf 6 enc_api_FD h2 <|
 mFin 5 h) fun _ h =>
 mFin 3 h) fun h =>
 mAsk 6 h beq_t beq_f (fun h =>
 mRet 6 h) fun h =>
 mFin 3 h
theorem L3_step (x0 : List api_FD) (y1_L3 : Int) (y5_L2 : Int) (y6_L2 : Int) (φ : Int → Prop) (h :
    drossref09_Close.L2 x0 y1_L3 y5_L2 ((IntKind.wrap .i64 (y6_L2 + 1))) φ) : L3 x0 y1_L3 y5_L2 y6_L2 φ :=
 mIn <|
 mFin 5 h
theorem enter (x0 : List api_FD) (x1 : Int) (φ : Int → Prop) (h :
    drossref09_Close.L1 x0 x1 φ) : ∃ r, φ r ∧ C x0 x1 r :=
 mEnt (fd := Try.f32) (body := B) (V := W) (res := res) <|
 mFin 3 h
end drossref09_Close
end Go.Own

namespace Go.Own
open Go.Proofs D
set_option maxRecDepth 100000
set_option maxHeartbeats 4000000
namespace closure_enlarges
noncomputable def B : Code := (Try.f43.body).getD .skip
def W : List Nat := [0, 1, 4, 5, 6, 7, 8, 9, 10, 25]
def res (r : Int) : D × List D := (.lit (.int .i64 r), [])
def C (x0 : List api_FD) (x1 : Int) (r : Int) : Prop := Ret env 43 [.sl (x0.map enc_api_FD), .lit (.int .u32 x1)] (res r).1 (res r).2
def L1 (x0 : List api_FD) (x1 : Int) (y9_L1 : Int) (φ : Int → Prop) : Prop := Pt env 43 W B [1, 0, 1, 0] [(0, .sl (x0.map enc_api_FD)), (1, .lit (.int .u32 x1)), (7, .sl (x0.map enc_api_FD)), (8, .lit (.int .i64 ((x0.length : Int)))), (9, .lit (.int .i64 y9_L1))] (Lv env 43 Try.f43 2 res φ)
def L2 (x0 : List api_FD) (x1 : Int) (y9_L1 : Int) (φ : Int → Prop) : Prop := Pt env 43 W B [1, 0, 1, 0, 0, 1, 1, 1] [(0, .sl (x0.map enc_api_FD)), (1, .lit (.int .u32 x1)), (7, .sl (x0.map enc_api_FD)), (8, .lit (.int .i64 ((x0.length : Int)))), (9, .lit (.int .i64 y9_L1))] (Lv env 43 Try.f43 2 res φ)
theorem L1_step (x0 : List api_FD) (x1 : Int) (y9_L1 : Int) (φ : Int → Prop) (h :
    (if y9_L1 < (x0.length : Int) then
      ∃ a1, lget x0 y9_L1 = some a1 ∧
      (if (bAndNot .u32 a1.Lhs x1) = 0 then
        (if (bAndNot .u32 a1.Rhs x1) = 0 then
          closure_enlarges.L2 x0 x1 y9_L1 φ
        else
          φ y9_L1)
      else
        closure_enlarges.L2 x0 x1 y9_L1 φ)
    else
      φ ((-1)))) : L1 x0 x1 y9_L1 φ :=
 mIn <|
 mAsk 2 h dT dF (fun h =>
 mIx 5 enc_api_FD h fun a1 h2 h =>
 mAsk 10 h beq_t beq_f (fun h =>
 mAskN 5 h bne_t bne_f (fun h =>
 mRet 7 h) fun h =>
 mFin 4 h) fun h =>
 mFin 10 h) fun h =>
 mRet 6 h
theorem L2_step (x0 : List api_FD) (x1 : Int) (y9_L1 : Int) (φ : Int → Prop) (h :
    closure_enlarges.L1 x0 x1 ((IntKind.wrap .i64 (y9_L1 + 1))) φ) : L2 x0 x1 y9_L1 φ :=
 mIn <|
 mFin 4 h
theorem enter (x0 : List api_FD) (x1 : Int) (φ : Int → Prop) (h :
    closure_enlarges.L1 x0 x1 0 φ) : ∃ r, φ r ∧ C x0 x1 r :=
 mEnt (fd := Try.f43) (body := B) (V := W) (res := res) <|
 mLen 5 enc_api_FD x0 <|
 mFin 2 h
end closure_enlarges
end Go.Own

namespace Go.Own
open Go.Proofs D
set_option maxRecDepth 100000
set_option maxHeartbeats 4000000
namespace closure_Closed
noncomputable def B : Code := (Try.f26.body).getD .skip
def W : List Nat := [0, 1, 4, 5, 6, 7, 9, 10, 17, 24, 29, 30, 31, 32, 38]
def res (r : List Int × Int) : D × List D := (.tup [.own (r.1.map (eI .u32)), .lit (.int .i64 r.2)], [])
def C (x0 : Int) (x1 : List api_FD) (r : List Int × Int) : Prop := Ret env 26 [.lit (.int .i64 x0), .sl (x1.map enc_api_FD)] (res r).1 (res r).2
def L1 (x1 : List api_FD) (y7_L1 : List Int) (r3 : List Int) (y31_L1 : Int) (φ : List Int × Int → Prop) : Prop := Pt env 26 W B [1, 1, 1, 1, 0, 1, 0] [(1, .sl (x1.map enc_api_FD)), (7, .own (y7_L1.map (eI .u32))), (29, .sl (r3.map (eI .u32))), (30, .lit (.int .i64 ((r3.length : Int)))), (31, .lit (.int .i64 y31_L1))] (Lv env 26 Try.f26 2 res φ)
def L2 (x1 : List api_FD) (y7_L2 : List Int) (r3 : List Int) (y31_L1 : Int) (φ : List Int × Int → Prop) : Prop := Pt env 26 W B [1, 1, 1, 1, 0, 1, 0, 0, 1, 1, 1] [(1, .sl (x1.map enc_api_FD)), (7, .own (y7_L2.map (eI .u32))), (29, .sl (r3.map (eI .u32))), (30, .lit (.int .i64 ((r3.length : Int)))), (31, .lit (.int .i64 y31_L1))] (Lv env 26 Try.f26 2 res φ)
theorem L1_step (x1 : List api_FD) (y7_L1 : List Int) (r3 : List Int) (y31_L1 : Int) (φ : List Int × Int → Prop) (h :
    (if y31_L1 < (r3.length : Int) then
      ∃ a4, lget r3 y31_L1 = some a4 ∧
      ∃ r6 : Int, closure_enlarges.C x1 a4 r6 ∧
      (if r6 < 0 then
        (y7_L1.length + 1) * 4 ≤ 140737488355328 ∧
        closure_Closed.L2 x1 ((y7_L1 ++ [a4])) r3 y31_L1 φ
      else
        closure_Closed.L2 x1 y7_L1 r3 y31_L1 φ)
    else
      φ ((y7_L1, 0)))) : L1 x1 y7_L1 r3 y31_L1 φ :=
 mIn <|
 mAsk 2 h dT dF (fun h =>
 mIx 4 (eI .u32) h fun a4 h5 h =>
 mCal 6 h (fun _ h => h) fun r6 _ h =>
 mAsk 0 h dT dF (fun h =>
 mApp 6 (eI .u32) y7_L1 ([a4]) h fun h =>
 mFin 2 h) fun h =>
 mFin 3 h) fun h =>
 mRet 8 h
theorem L2_step (x1 : List api_FD) (y7_L2 : List Int) (r3 : List Int) (y31_L1 : Int) (φ : List Int × Int → Prop) (h :
    closure_Closed.L1 x1 y7_L2 r3 ((IntKind.wrap .i64 (y31_L1 + 1))) φ) : L2 x1 y7_L2 r3 y31_L1 φ :=
 mIn <|
 mFin 4 h
theorem enter (x0 : Int) (x1 : List api_FD) (φ : List Int × Int → Prop) (h :
    (if x0 < 0 then
      φ (([], 7))
    else
      (if 16 < x0 then
        φ (([], 7))
      else
        (if 12 < x0 then
          φ (([], 3))
        else
          ∃ r1 : Int, closure_Valid.C x0 x1 r1 ∧
          (if r1 = 0 then
            0 ≤ x0 ∧
            ∃ r3 : List Int, attrset_Subsets.C ((IntKind.wrap .u32 ((shlw .u32 1 x0) - 1))) r3 ∧
            closure_Closed.L1 x1 ([]) r3 0 φ
          else
            φ (([], r1))))))) : ∃ r, φ r ∧ C x0 x1 r :=
 mEnt (fd := Try.f26) (body := B) (V := W) (res := res) <|
 mAsk 6 h dT dF (fun h =>
 mRet 11 h) fun h =>
 mCon 6 h dT dF (fun h =>
 mRet 4 h) fun h =>
 mCon 5 h dT dF (fun h =>
 mRet 4 h) fun h =>
 mCal 4 h (fun _ h => h) fun r1 _ h =>
 mAskN 4 h bne_t bne_f (fun h =>
 mRet 7 h) fun h =>
 h.elim fun h2 h =>
 mBi 8 (bin_shl (t := 31) (q := .u32) (q' := .i64) (i1 := 1) h2) <|
 mCal 1 h (fun _ h => h) (hf := (fun _ => clF_both)) fun r3 _ h =>
 mLen 0 (eI .u32) r3 <|
 mFin 2 h
end closure_Closed
end Go.Own

namespace Go.Own
open Go.Proofs D
set_option maxRecDepth 100000
set_option maxHeartbeats 4000000
namespace drossref09_IsClosed
noncomputable def B : Code := (Try.f48.body).getD .skip
def W : List Nat := [0, 1, 4, 5, 9, 28]
def res (r : Bool) : D × List D := (.lit (.bool r), [])
def C (x0 : List api_FD) (x1 : Int) (r : Bool) : Prop := Ret env 48 [.sl (x0.map enc_api_FD), .lit (.int .u32 x1)] (res r).1 (res r).2
def L1 (x0 : List api_FD) (x1 : Int) (y5_L1 : Int) (φ : Bool → Prop) : Prop := Pt env 48 W B [1, 0, 1, 0] [(0, .sl (x0.map enc_api_FD)), (1, .lit (.int .u32 x1)), (5, .lit (.int .i64 y5_L1))] (Lv env 48 Try.f48 2 res φ)
def L2 (x0 : List api_FD) (x1 : Int) (y5_L1 : Int) (φ : Bool → Prop) : Prop := Pt env 48 W B [1, 0, 1, 0, 0, 1, 1] [(0, .sl (x0.map enc_api_FD)), (1, .lit (.int .u32 x1)), (5, .lit (.int .i64 y5_L1))] (Lv env 48 Try.f48 2 res φ)
theorem L1_step (x0 : List api_FD) (x1 : Int) (y5_L1 : Int) (φ : Bool → Prop) (h :
    (if y5_L1 < (x0.length : Int) then
      ∃ a1, lget x0 y5_L1 = some a1 ∧
      ∃ r3 : Bool, drossref02_Sub.C a1.Lhs x1 r3 ∧
      (if r3 = true then
        ∃ r4 : Bool, drossref02_Sub.C a1.Rhs x1 r4 ∧
        (if r4 = true then
          drossref09_IsClosed.L2 x0 x1 y5_L1 φ
        else
          φ false)
      else
        drossref09_IsClosed.L2 x0 x1 y5_L1 φ)
    else
      φ true)) : L1 x0 x1 y5_L1 φ :=
 mIn <|
 mLen 4 enc_api_FD x0 <|
 mAsk 0 h dT dF (fun h =>
 mIx 6 enc_api_FD h fun a1 h2 h =>
 mCalB 3 h (fun _ h => h) (fun _ h =>
 mIxf 3 enc_api_FD h2 <|
 mCalB 3 h (fun _ h => h) (fun _ h =>
 mFin 5 h) fun _ h =>
 mRet 7 h) fun _ h =>
 mFin 13 h) fun h =>
 mRet 6 h
theorem L2_step (x0 : List api_FD) (x1 : Int) (y5_L1 : Int) (φ : Bool → Prop) (h :
    drossref09_IsClosed.L1 x0 x1 ((IntKind.wrap .i64 (y5_L1 + 1))) φ) : L2 x0 x1 y5_L1 φ :=
 mIn <|
 mFin 5 h
theorem enter (x0 : List api_FD) (x1 : Int) (φ : Bool → Prop) (h :
    drossref09_IsClosed.L1 x0 x1 0 φ) : ∃ r, φ r ∧ C x0 x1 r :=
 mEnt (fd := Try.f48) (body := B) (V := W) (res := res) <|
 mFin 6 h
end drossref09_IsClosed
end Go.Own

namespace Go.Own
open Go.Proofs D
set_option maxRecDepth 100000
set_option maxHeartbeats 4000000
namespace drossref09_Closed
noncomputable def B : Code := (Try.f38.body).getD .skip
def W : List Nat := [0, 1, 4, 5, 6, 7, 8, 18, 23, 28, 33]
def res (r : List Int × Int) : D × List D := (.tup [.own (r.1.map (eI .u32)), .lit (.int .i64 r.2)], [])
def C (x0 : Int) (x1 : List api_FD) (r : List Int × Int) : Prop := Ret env 38 [.lit (.int .i64 x0), .sl (x1.map enc_api_FD)] (res r).1 (res r).2
def L2 (x0 : Int) (x1 : List api_FD) (φ : List Int × Int → Prop) : Prop := Pt env 38 W B [1, 1, 0, 0] [(0, .lit (.int .i64 x0)), (1, .sl (x1.map enc_api_FD))] (Lv env 38 Try.f38 2 res φ)
def L1 (x0 : Int) (x1 : List api_FD) (y7_L1 : List Int) (y8_L1 : Int) (φ : List Int × Int → Prop) : Prop := Pt env 38 W B [1, 1, 1, 1, 0, 1, 0] [(0, .lit (.int .i64 x0)), (1, .sl (x1.map enc_api_FD)), (7, .own (y7_L1.map (eI .u32))), (8, .lit (.int .u32 y8_L1))] (Lv env 38 Try.f38 2 res φ)
def L3 (x0 : Int) (x1 : List api_FD) (y7_L3 : List Int) (y8_L1 : Int) (φ : List Int × Int → Prop) : Prop := Pt env 38 W B [1, 1, 1, 1, 0, 1, 0, 0, 1, 1] [(0, .lit (.int .i64 x0)), (1, .sl (x1.map enc_api_FD)), (7, .own (y7_L3.map (eI .u32))), (8, .lit (.int .u32 y8_L1))] (Lv env 38 Try.f38 2 res φ)
theorem L2_step (x0 : Int) (x1 : List api_FD) (φ : List Int × Int → Prop) (h :
    ∃ r1 : Int, drossref09_Valid.C x0 x1 r1 ∧
    (if r1 = 0 then
      drossref09_Closed.L1 x0 x1 ([]) 0 φ
    else
      φ (([], r1)))) : L2 x0 x1 φ :=
 mIn <|
 mCal 3 h (fun _ h => h) fun r1 _ h =>
 mAskN 4 h bne_t bne_f (fun h =>
 mRet 7 h) fun h =>
 mFin 9 h
theorem L1_step (x0 : Int) (x1 : List api_FD) (y7_L1 : List Int) (y8_L1 : Int) (φ : List Int × Int → Prop) (h :
    ∃ r2 : Int, drossref02_Full.C x0 r2 ∧
    (if y8_L1 ≤ r2 then
      ∃ r3 : Bool, drossref09_IsClosed.C x1 y8_L1 r3 ∧
      (if r3 = true then
        (y7_L1.length + 1) * 4 ≤ 140737488355328 ∧
        drossref09_Closed.L3 x0 x1 ((y7_L1 ++ [y8_L1])) y8_L1 φ
      else
        drossref09_Closed.L3 x0 x1 y7_L1 y8_L1 φ)
    else
      ∃ r5 : List Int, drossref02_Order.C y7_L1 r5 ∧
      φ ((r5, 0)))) : L1 x0 x1 y7_L1 y8_L1 φ :=
 mIn <|
 mCal 4 h (fun _ h => h) fun r2 _ h =>
 mAsk 0 h dT dF (fun h =>
 mCalB 6 h (fun _ h => h) (fun _ h =>
 mApp 6 (eI .u32) y7_L1 ([y8_L1]) h fun h =>
 mFin 2 h) fun _ h =>
 mFin 3 h) fun h =>
 mCal 5 h (fun _ h => h) (hr := by exact (pr_snap (snap_ow (s := 7) (ps := []) (l := y7_L1) (e := (eI .u32)) (e' := (eI .u32)) (fun _ => rfl) (by kernel_rfl)) pr_nil)) (hf := (fun _ => clF_flat (flat_ow (e := (eI .u32)) (fun _ => rfl)) rfl)) fun r5 _ h =>
 mRet 3 h
theorem L3_step (x0 : Int) (x1 : List api_FD) (y7_L3 : List Int) (y8_L1 : Int) (φ : List Int × Int → Prop) (h :
    drossref09_Closed.L1 x0 x1 y7_L3 ((IntKind.wrap .u32 (y8_L1 + 1))) φ) : L3 x0 x1 y7_L3 y8_L1 φ :=
 mIn <|
 mFin 5 h
theorem enter (x0 : Int) (x1 : List api_FD) (φ : List Int × Int → Prop) (h :
    (if 0 ≤ x0 then
      (if x0 ≤ 16 then
        (if 12 < x0 then
          φ (([], 3))
        else
          drossref09_Closed.L2 x0 x1 φ)
      else
        drossref09_Closed.L2 x0 x1 φ)
    else
      drossref09_Closed.L2 x0 x1 φ)) : ∃ r, φ r ∧ C x0 x1 r :=
 mEnt (fd := Try.f38) (body := B) (V := W) (res := res) <|
 mAsk 6 h dT dF (fun h =>
 mAsk 2 h dT dF (fun h =>
 mAsk 3 h dT dF (fun h =>
 mRet 7 h) fun h =>
 mFin 4 h) fun h =>
 mFin 8 h) fun h =>
 mFin 11 h
end drossref09_Closed
end Go.Own

namespace Go.Own
open Go.Proofs D
set_option maxRecDepth 100000
set_option maxHeartbeats 4000000
namespace armstrong_check
noncomputable def B : Code := (Try.f25.body).getD .skip
def W : List Nat := [0, 1, 4, 5, 10, 13]
def res (r : Int) : D × List D := (.lit (.int .i64 r), [])
def C (x0 : Int) (x1 : List api_FD) (r : Int) : Prop := Ret env 25 [.lit (.int .i64 x0), .sl (x1.map enc_api_FD)] (res r).1 (res r).2
theorem enter (x0 : Int) (x1 : List api_FD) (φ : Int → Prop) (h :
    ∃ r1 : Int, closure_Valid.C x0 x1 r1 ∧
    (if r1 = 0 then
      (if 10 < x0 then
        φ 3
      else
        φ 0)
    else
      φ r1)) : ∃ r, φ r ∧ C x0 x1 r :=
 mEnt (fd := Try.f25) (body := B) (V := W) (res := res) <|
 mCal 6 h (fun _ h => h) fun r1 _ h =>
 mAskN 4 h bne_t bne_f (fun h =>
 mRet 6 h) fun h =>
 mAsk 5 h dT dF (fun h =>
 mRet 5 h) fun h =>
 mRet 6 h
end armstrong_check
end Go.Own

namespace Go.Own
open Go.Proofs D
set_option maxRecDepth 100000
set_option maxHeartbeats 4000000
namespace armstrong_full
noncomputable def B : Code := (Try.f27.body).getD .skip
def W : List Nat := [0, 2]
def res (r : Int) : D × List D := (.lit (.int .u32 r), [])
def C (x0 : Int) (r : Int) : Prop := Ret env 27 [.lit (.int .i64 x0)] (res r).1 (res r).2
theorem enter (x0 : Int) (φ : Int → Prop) (h :
    0 ≤ x0 ∧
    φ ((IntKind.wrap .u32 ((shlw .u32 1 x0) - 1)))) : ∃ r, φ r ∧ C x0 r :=
 mEnt (fd := Try.f27) (body := B) (V := W) (res := res) <|
 h.elim fun h1 h =>
 mBi 5 (bin_shl (t := 31) (q := .u32) (q' := .i64) (i1 := 1) h1) <|
 mRet 3 h
end armstrong_full
end Go.Own

namespace Go.Own
open Go.Proofs D
set_option maxRecDepth 100000
set_option maxHeartbeats 4000000
namespace armstrong_Irreducible
noncomputable def B : Code := (Try.f9.body).getD .skip
def W : List Nat := [0, 1, 4, 5, 6, 7, 8, 9, 11, 12, 14, 19, 28, 30, 31, 32, 33, 38, 39, 40, 41, 53, 66]
def res (r : List Int × Int) : D × List D := (.tup [.own (r.1.map (eI .u32)), .lit (.int .i64 r.2)], [])
def C (x0 : Int) (x1 : List api_FD) (r : List Int × Int) : Prop := Ret env 9 [.lit (.int .i64 x0), .sl (x1.map enc_api_FD)] (res r).1 (res r).2
def L1 (x0 : Int) (r2 : List Int × Int) (y9_L1 : List Int) (y32_L1 : Int) (φ : List Int × Int → Prop) : Prop := Pt env 9 W B [1, 1, 1, 1, 1, 0, 1, 0] [(0, .lit (.int .i64 x0)), (7, .own (r2.1.map (eI .u32))), (9, .own (y9_L1.map (eI .u32))), (30, .alias 7 []), (31, .lit (.int .i64 ((r2.1.length : Int)))), (32, .lit (.int .i64 y32_L1))] (Lv env 9 Try.f9 2 res φ)
def L2 (x0 : Int) (r2 : List Int × Int) (y9_L2 : List Int) (a3 : Int) (r5 : Int) (y32_L2 : Int) (y40_L2 : Int) (φ : List Int × Int → Prop) : Prop := Pt env 9 W B [1, 1, 1, 1, 1, 0, 1, 0, 0, 1, 1, 0, 0, 1, 1, 0, 1, 0] [(0, .lit (.int .i64 x0)), (7, .own (r2.1.map (eI .u32))), (9, .own (y9_L2.map (eI .u32))), (11, .lit (.int .u32 a3)), (12, .lit (.int .u32 r5)), (30, .alias 7 []), (31, .lit (.int .i64 ((r2.1.length : Int)))), (32, .lit (.int .i64 y32_L2)), (38, .alias 7 []), (39, .lit (.int .i64 ((r2.1.length : Int)))), (40, .lit (.int .i64 y40_L2))] (Lv env 9 Try.f9 2 res φ)
def L3 (x0 : Int) (r2 : List Int × Int) (y9_L3 : List Int) (a3 : Int) (y12_L3 : Int) (y32_L3 : Int) (y40_L2 : Int) (φ : List Int × Int → Prop) : Prop := Pt env 9 W B [1, 1, 1, 1, 1, 0, 1, 0, 0, 1, 1, 0, 0, 1, 1, 0, 1, 0, 0, 1, 1, 1] [(0, .lit (.int .i64 x0)), (7, .own (r2.1.map (eI .u32))), (9, .own (y9_L3.map (eI .u32))), (11, .lit (.int .u32 a3)), (12, .lit (.int .u32 y12_L3)), (30, .alias 7 []), (31, .lit (.int .i64 ((r2.1.length : Int)))), (32, .lit (.int .i64 y32_L3)), (38, .alias 7 []), (39, .lit (.int .i64 ((r2.1.length : Int)))), (40, .lit (.int .i64 y40_L2))] (Lv env 9 Try.f9 2 res φ)
def L4 (x0 : Int) (r2 : List Int × Int) (y9_L4 : List Int) (y32_L2 : Int) (φ : List Int × Int → Prop) : Prop := Pt env 9 W B [1, 1, 1, 1, 1, 0, 1, 0, 0, 1, 1, 1] [(0, .lit (.int .i64 x0)), (7, .own (r2.1.map (eI .u32))), (9, .own (y9_L4.map (eI .u32))), (30, .alias 7 []), (31, .lit (.int .i64 ((r2.1.length : Int)))), (32, .lit (.int .i64 y32_L2))] (Lv env 9 Try.f9 2 res φ)
theorem L1_step (x0 : Int) (r2 : List Int × Int) (y9_L1 : List Int) (y32_L1 : Int) (φ : List Int × Int → Prop) (h :
    (if y32_L1 < (r2.1.length : Int) then
      ∃ a3, lget r2.1 y32_L1 = some a3 ∧
      ∃ r5 : Int, armstrong_full.C x0 r5 ∧
      armstrong_Irreducible.L2 x0 r2 y9_L1 a3 r5 y32_L1 0 φ
    else
      φ ((y9_L1, 0)))) : L1 x0 r2 y9_L1 y32_L1 φ :=
 mIn <|
 mAsk 2 h dT dF (fun h =>
 mIy 4 (eI .u32) h fun a3 h4 h =>
 mLd 0 (eI .u32) h4 <|
 mCal 4 h (fun _ h => h) fun r5 _ h =>
 mLen 4 (eI .u32) r2.1 <|
 mFin 2 h) fun h =>
 mRet 8 h
theorem L2_step (x0 : Int) (r2 : List Int × Int) (y9_L2 : List Int) (a3 : Int) (r5 : Int) (y32_L2 : Int) (y40_L2 : Int) (φ : List Int × Int → Prop) (h :
    (if y40_L2 < (r2.1.length : Int) then
      ∃ a6, lget r2.1 y40_L2 = some a6 ∧
      (if a6 = a3 then
        armstrong_Irreducible.L3 x0 r2 y9_L2 a3 r5 y32_L2 y40_L2 φ
      else
        (if (bAnd .u32 a6 a3) = a3 then
          armstrong_Irreducible.L3 x0 r2 y9_L2 a3 ((bAnd .u32 r5 a6)) y32_L2 y40_L2 φ
        else
          armstrong_Irreducible.L3 x0 r2 y9_L2 a3 r5 y32_L2 y40_L2 φ))
    else
      ∃ r8 : Int, armstrong_full.C x0 r8 ∧
      (if a3 = r8 then
        armstrong_Irreducible.L4 x0 r2 y9_L2 y32_L2 φ
      else
        (if r5 = a3 then
          armstrong_Irreducible.L4 x0 r2 y9_L2 y32_L2 φ
        else
          (y9_L2.length + 1) * 4 ≤ 140737488355328 ∧
          armstrong_Irreducible.L4 x0 r2 ((y9_L2 ++ [a3])) y32_L2 φ)))) : L2 x0 r2 y9_L2 a3 r5 y32_L2 y40_L2 φ :=
 mIn <|
 mAsk 2 h dT dF (fun h =>
 mIy 4 (eI .u32) h fun a6 h7 h =>
 mLd 0 (eI .u32) h7 <|
 mAskN 5 h bne_t bne_f (fun h =>
 mAsk 5 h beq_t beq_f (fun h =>
 mFin 9 h) fun h =>
 mFin 4 h) fun h =>
 mFin 10 h) fun h =>
 mCal 6 h (fun _ h => h) fun r8 _ h =>
 mAskN 0 h bne_t bne_f (fun h =>
 mAskN 3 h bne_t bne_f (fun h =>
 mApp 7 (eI .u32) y9_L2 ([a3]) h fun h =>
 mFin 2 h) fun h =>
 mFin 4 h) fun h =>
 mFin 8 h
theorem L3_step (x0 : Int) (r2 : List Int × Int) (y9_L3 : List Int) (a3 : Int) (y12_L3 : Int) (y32_L3 : Int) (y40_L2 : Int) (φ : List Int × Int → Prop) (h :
    armstrong_Irreducible.L2 x0 r2 y9_L3 a3 y12_L3 y32_L3 ((IntKind.wrap .i64 (y40_L2 + 1))) φ) : L3 x0 r2 y9_L3 a3 y12_L3 y32_L3 y40_L2 φ :=
 mIn <|
 mFin 4 h
theorem L4_step (x0 : Int) (r2 : List Int × Int) (y9_L4 : List Int) (y32_L2 : Int) (φ : List Int × Int → Prop) (h :
    armstrong_Irreducible.L1 x0 r2 y9_L4 ((IntKind.wrap .i64 (y32_L2 + 1))) φ) : L4 x0 r2 y9_L4 y32_L2 φ :=
 mIn <|
 mFin 4 h
theorem enter (x0 : Int) (x1 : List api_FD) (φ : List Int × Int → Prop) (h :
    ∃ r1 : Int, armstrong_check.C x0 x1 r1 ∧
    (if r1 = 0 then
      ∃ r2 : List Int × Int, closure_Closed.C x0 x1 r2 ∧
      (if r2.2 = 0 then
        armstrong_Irreducible.L1 x0 r2 ([]) 0 φ
      else
        φ (([], r2.2)))
    else
      φ (([], r1)))) : ∃ r, φ r ∧ C x0 x1 r :=
 mEnt (fd := Try.f9) (body := B) (V := W) (res := res) <|
 mCal 7 h (fun _ h => h) fun r1 _ h =>
 mAskN 4 h bne_t bne_f (fun h =>
 mRet 7 h) fun h =>
 mCal 6 h (fun _ h => h) (hf := (fun _ => clF_flat (flat_tup (flts_cons (flat_ow (e := (eI .u32)) (fun _ => rfl)) (flts_cons rfl flts_nil))) rfl)) fun r2 _ h =>
 mAskN 8 h bne_t bne_f (fun h =>
 mRet 7 h) fun h =>
 mLen 8 (eI .u32) r2.1 <|
 mFin 2 h
end armstrong_Irreducible
end Go.Own

namespace Go.Own
open Go.Proofs D
set_option maxRecDepth 100000
set_option maxHeartbeats 4000000
namespace drossref19_Closed
noncomputable def B : Code := (Try.f21.body).getD .skip
def W : List Nat := [0, 1, 4, 5, 6]
def res (r : List Int) : D × List D := (.own (r.map (eI .u32)), [])
def C (x0 : Int) (x1 : List api_FD) (r : List Int) : Prop := Ret env 21 [.lit (.int .i64 x0), .sl (x1.map enc_api_FD)] (res r).1 (res r).2
theorem enter (x0 : Int) (x1 : List api_FD) (φ : List Int → Prop) (h :
    ∃ r1 : List Int × Int, drossref09_Closed.C x0 x1 r1 ∧
    φ r1.1) : ∃ r, φ r ∧ C x0 x1 r :=
 mEnt (fd := Try.f21) (body := B) (V := W) (res := res) <|
 mCal 6 h (fun _ h => h) (hf := (fun _ => clF_flat (flat_tup (flts_cons (flat_ow (e := (eI .u32)) (fun _ => rfl)) (flts_cons rfl flts_nil))) rfl)) fun r1 _ h =>
 mRet 10 h
end drossref19_Closed
end Go.Own

namespace Go.Own
open Go.Proofs D
set_option maxRecDepth 100000
set_option maxHeartbeats 4000000
namespace drossref19_Error
noncomputable def B : Code := (Try.f28.body).getD .skip
def W : List Nat := [0, 1, 4, 5, 10, 13]
def res (r : Int) : D × List D := (.lit (.int .i64 r), [])
def C (x0 : Int) (x1 : List api_FD) (r : Int) : Prop := Ret env 28 [.lit (.int .i64 x0), .sl (x1.map enc_api_FD)] (res r).1 (res r).2
theorem enter (x0 : Int) (x1 : List api_FD) (φ : Int → Prop) (h :
    ∃ r1 : Int, drossref09_Valid.C x0 x1 r1 ∧
    (if r1 = 0 then
      (if 10 < x0 then
        φ 3
      else
        φ 0)
    else
      φ r1)) : ∃ r, φ r ∧ C x0 x1 r :=
 mEnt (fd := Try.f28) (body := B) (V := W) (res := res) <|
 mCal 6 h (fun _ h => h) fun r1 _ h =>
 mAskN 4 h bne_t bne_f (fun h =>
 mRet 6 h) fun h =>
 mAsk 5 h dT dF (fun h =>
 mRet 5 h) fun h =>
 mRet 6 h
end drossref19_Error
end Go.Own

namespace Go.Own
open Go.Proofs D
set_option maxRecDepth 100000
set_option maxHeartbeats 4000000
namespace drossref19_Irreducible
noncomputable def B : Code := (Try.f11.body).getD .skip
def W : List Nat := [0, 1, 4, 5, 6, 7, 8, 9, 10, 11, 16, 24, 32, 54, 75]
def res (r : List Int × Int) : D × List D := (.tup [.own (r.1.map (eI .u32)), .lit (.int .i64 r.2)], [])
def C (x0 : Int) (x1 : List api_FD) (r : List Int × Int) : Prop := Ret env 11 [.lit (.int .i64 x0), .sl (x1.map enc_api_FD)] (res r).1 (res r).2
def L1 (x0 : Int) (r2 : List Int) (y8_L1 : List Int) (y9_L1 : Int) (φ : List Int × Int → Prop) : Prop := Pt env 11 W B [1, 1, 1, 1, 0, 1, 0] [(0, .lit (.int .i64 x0)), (7, .own (r2.map (eI .u32))), (8, .own (y8_L1.map (eI .u32))), (9, .lit (.int .i64 y9_L1))] (Lv env 11 Try.f11 2 res φ)
def L2 (x0 : Int) (r2 : List Int) (y8_L2 : List Int) (y9_L2 : Int) (r3 : Int) (y11_L2 : Int) (φ : List Int × Int → Prop) : Prop := Pt env 11 W B [1, 1, 1, 1, 0, 1, 0, 0, 1, 0, 0, 1, 0, 1, 0] [(0, .lit (.int .i64 x0)), (7, .own (r2.map (eI .u32))), (8, .own (y8_L2.map (eI .u32))), (9, .lit (.int .i64 y9_L2)), (10, .lit (.int .u32 r3)), (11, .lit (.int .i64 y11_L2))] (Lv env 11 Try.f11 2 res φ)
def L3 (x0 : Int) (r2 : List Int) (y8_L3 : List Int) (y9_L3 : Int) (y10_L3 : Int) (y11_L2 : Int) (φ : List Int × Int → Prop) : Prop := Pt env 11 W B [1, 1, 1, 1, 0, 1, 0, 0, 1, 0, 0, 1, 0, 1, 0, 0, 1, 1] [(0, .lit (.int .i64 x0)), (7, .own (r2.map (eI .u32))), (8, .own (y8_L3.map (eI .u32))), (9, .lit (.int .i64 y9_L3)), (10, .lit (.int .u32 y10_L3)), (11, .lit (.int .i64 y11_L2))] (Lv env 11 Try.f11 2 res φ)
def L4 (x0 : Int) (r2 : List Int) (y8_L4 : List Int) (y9_L2 : Int) (φ : List Int × Int → Prop) : Prop := Pt env 11 W B [1, 1, 1, 1, 0, 1, 0, 0, 1, 1] [(0, .lit (.int .i64 x0)), (7, .own (r2.map (eI .u32))), (8, .own (y8_L4.map (eI .u32))), (9, .lit (.int .i64 y9_L2))] (Lv env 11 Try.f11 2 res φ)
theorem L1_step (x0 : Int) (r2 : List Int) (y8_L1 : List Int) (y9_L1 : Int) (φ : List Int × Int → Prop) (h :
    (if y9_L1 < (r2.length : Int) then
      ∃ r3 : Int, drossref02_Full.C x0 r3 ∧
      drossref19_Irreducible.L2 x0 r2 y8_L1 y9_L1 r3 0 φ
    else
      φ ((y8_L1, 0)))) : L1 x0 r2 y8_L1 y9_L1 φ :=
 mIn <|
 mLen 4 (eI .u32) r2 <|
 mAsk 0 h dT dF (fun h =>
 mCal 5 h (fun _ h => h) fun r3 _ h =>
 mFin 5 h) fun h =>
 mRet 8 h
theorem L2_step (x0 : Int) (r2 : List Int) (y8_L2 : List Int) (y9_L2 : Int) (r3 : Int) (y11_L2 : Int) (φ : List Int × Int → Prop) (h :
    (if y11_L2 < (r2.length : Int) then
      ∃ a4, lget r2 y11_L2 = some a4 ∧
      ∃ a6, lget r2 y9_L2 = some a6 ∧
      (if a4 = a6 then
        drossref19_Irreducible.L3 x0 r2 y8_L2 y9_L2 r3 y11_L2 φ
      else
        ∃ r8 : Bool, drossref02_Sub.C a6 a4 r8 ∧
        (if r8 = true then
          drossref19_Irreducible.L3 x0 r2 y8_L2 y9_L2 ((bAnd .u32 r3 a4)) y11_L2 φ
        else
          drossref19_Irreducible.L3 x0 r2 y8_L2 y9_L2 r3 y11_L2 φ))
    else
      ∃ a9, lget r2 y9_L2 = some a9 ∧
      ∃ r11 : Int, drossref02_Full.C x0 r11 ∧
      (if a9 = r11 then
        drossref19_Irreducible.L4 x0 r2 y8_L2 y9_L2 φ
      else
        (if r3 = a9 then
          drossref19_Irreducible.L4 x0 r2 y8_L2 y9_L2 φ
        else
          (y8_L2.length + 1) * 4 ≤ 140737488355328 ∧
          drossref19_Irreducible.L4 x0 r2 ((y8_L2 ++ [a9])) y9_L2 φ)))) : L2 x0 r2 y8_L2 y9_L2 r3 y11_L2 φ :=
 mIn <|
 mLen 4 (eI .u32) r2 <|
 mAsk 0 h dT dF (fun h =>
 mIy 6 (eI .u32) h fun a4 h5 h =>
 mLd 0 (eI .u32) h5 <|
 mIy 2 (eI .u32) h fun a6 h7 h =>
 mLd 0 (eI .u32) h7 <|
 mAskN 0 h bne_t bne_f (fun h =>
 mIyf 3 (eI .u32) h7 <|
 mLd 0 (eI .u32) h7 <|
 mIyf 2 (eI .u32) h5 <|
 mLd 0 (eI .u32) h5 <|
 mCalB 0 h (fun _ h => h) (fun _ h =>
 mIyf 7 (eI .u32) h5 <|
 mLd 0 (eI .u32) h5 <|
 mFin 3 h) fun _ h =>
 mFin 4 h) fun h =>
 mFin 14 h) fun h =>
 mIy 6 (eI .u32) h fun a9 h10 h =>
 mLd 0 (eI .u32) h10 <|
 mLo 1 h (fun _ h => h) fun r11 _ h =>
 mAskN 0 h bne_t bne_f (fun h =>
 mIyf 4 (eI .u32) h10 <|
 mLd 0 (eI .u32) h10 <|
 mAskN 0 h bne_t bne_f (fun h =>
 mIyf 7 (eI .u32) h10 <|
 mLd 0 (eI .u32) h10 <|
 mApp 1 (eI .u32) y8_L2 ([a9]) h fun h =>
 mFin 2 h) fun h =>
 mFin 4 h) fun h =>
 mFin 11 h
theorem L3_step (x0 : Int) (r2 : List Int) (y8_L3 : List Int) (y9_L3 : Int) (y10_L3 : Int) (y11_L2 : Int) (φ : List Int × Int → Prop) (h :
    drossref19_Irreducible.L2 x0 r2 y8_L3 y9_L3 y10_L3 ((IntKind.wrap .i64 (y11_L2 + 1))) φ) : L3 x0 r2 y8_L3 y9_L3 y10_L3 y11_L2 φ :=
 mIn <|
 mFin 5 h
theorem L4_step (x0 : Int) (r2 : List Int) (y8_L4 : List Int) (y9_L2 : Int) (φ : List Int × Int → Prop) (h :
    drossref19_Irreducible.L1 x0 r2 y8_L4 ((IntKind.wrap .i64 (y9_L2 + 1))) φ) : L4 x0 r2 y8_L4 y9_L2 φ :=
 mIn <|
 mFin 5 h
theorem enter (x0 : Int) (x1 : List api_FD) (φ : List Int × Int → Prop) (h :
    ∃ r1 : Int, drossref19_Error.C x0 x1 r1 ∧
    (if r1 = 0 then
      ∃ r2 : List Int, drossref19_Closed.C x0 x1 r2 ∧
      drossref19_Irreducible.L1 x0 r2 ([]) 0 φ
    else
      φ (([], r1)))) : ∃ r, φ r ∧ C x0 x1 r :=
 mEnt (fd := Try.f11) (body := B) (V := W) (res := res) <|
 mCal 7 h (fun _ h => h) fun r1 _ h =>
 mAskN 4 h bne_t bne_f (fun h =>
 mRet 7 h) fun h =>
 mCal 6 h (fun _ h => h) (hf := (fun _ => clF_flat (flat_ow (e := (eI .u32)) (fun _ => rfl)) rfl)) fun r2 _ h =>
 mFin 8 h
end drossref19_Irreducible
end Go.Own

namespace Go.Own
open Go.Proofs D
set_option maxRecDepth 100000
set_option maxHeartbeats 4000000
namespace attrset_Maximal_1
noncomputable def B : Code := (Try.f46.body).getD .skip
def W : List Nat := [0, 1, 4]
def res (r : Bool) : D × List D := (.lit (.bool r), [])
def C (x0 : Int) (x1 : Int) (r : Bool) : Prop := Ret env 46 [.lit (.int .u32 x0), .lit (.int .u32 x1)] (res r).1 (res r).2
theorem enter (x0 : Int) (x1 : Int) (φ : Bool → Prop) (h :
    φ (((bAndNot .u32 x0 x1) == 0))) : ∃ r, φ r ∧ C x0 x1 r :=
 mEnt (fd := Try.f46) (body := B) (V := W) (res := res) <|
 mRet 10 h
end attrset_Maximal_1
end Go.Own

namespace Go.Own
open Go.Proofs D
set_option maxRecDepth 100000
set_option maxHeartbeats 4000000
namespace attrset_keep_1_1
noncomputable def B : Code := (Try.f56.body).getD .skip
def W : List Nat := [0, 1, 2, 4]
def res (r : Bool) : D × List D := (.lit (.bool r), [])
def C (x0 : Int) (k1_0 : Int) (r : Bool) : Prop := Ret env 56 [.lit (.int .u32 x0), .ref [.lit (.int .u32 k1_0)], .ref [.fn 46 []]] (res r).1 (res r).2
theorem enter (x0 : Int) (k1_0 : Int) (φ : Bool → Prop) (h :
    (if k1_0 = x0 then
      φ false
    else
      ∃ r1 : Bool, attrset_Maximal_1.C k1_0 x0 r1 ∧
      φ r1)) : ∃ r, φ r ∧ C x0 k1_0 r :=
 mEnt (fd := Try.f56) (body := B) (V := W) (res := res) <|
 mAskN 6 h bne_t bne_f (fun h =>
 mCal 4 h (fun _ h => h) fun r1 _ h =>
 mRet 3 h) fun h =>
 mRet 8 h
end attrset_keep_1_1
end Go.Own

namespace Go.Own
open Go.Proofs D
set_option maxRecDepth 100000
set_option maxHeartbeats 4000000
namespace slices_IndexFunc_sapi_Set_api_Set_attrset_keep_1_1
noncomputable def B : Code := (Try.f63.body).getD .skip
def W : List Nat := [0, 1, 4, 5, 7, 8, 9, 16]
def res (r : Int) : D × List D := (.lit (.int .i64 r), [])
def C (x0 : List Int) (k1_0 : Int) (r : Int) : Prop := Ret env 63 [.sl (x0.map (eI .u32)), .fn 56 [.ref [.lit (.int .u32 k1_0)], .ref [.fn 46 []]]] (res r).1 (res r).2
def L1 (x0 : List Int) (k1_0 : Int) (y8_L1 : Int) (φ : Int → Prop) : Prop := Pt env 63 W B [1, 0, 1, 0] [(0, .sl (x0.map (eI .u32))), (1, .fn 56 [.ref [.lit (.int .u32 k1_0)], .ref [.fn 46 []]]), (7, .lit (.int .i64 ((x0.length : Int)))), (8, .lit (.int .i64 y8_L1))] (Lv env 63 Try.f63 2 res φ)
theorem L1_step (x0 : List Int) (k1_0 : Int) (y8_L1 : Int) (φ : Int → Prop) (h :
    (if y8_L1 < (x0.length : Int) then
      ∃ a1, lget x0 y8_L1 = some a1 ∧
      ∃ r3 : Bool, attrset_keep_1_1.C a1 k1_0 r3 ∧
      (if r3 = true then
        φ y8_L1
      else
        slices_IndexFunc_sapi_Set_api_Set_attrset_keep_1_1.L1 x0 k1_0 ((IntKind.wrap .i64 (y8_L1 + 1))) φ)
    else
      φ ((-1)))) : L1 x0 k1_0 y8_L1 φ :=
 mIn <|
 mAsk 2 h dT dF (fun h =>
 mIx 11 (eI .u32) h fun a1 h2 h =>
 mCalB 1 h (fun _ h => h) (fun _ h =>
 mRet 6 h) fun _ h =>
 mFin 7 h) fun h =>
 mRet 6 h
theorem enter (x0 : List Int) (k1_0 : Int) (φ : Int → Prop) (h :
    slices_IndexFunc_sapi_Set_api_Set_attrset_keep_1_1.L1 x0 k1_0 0 φ) : ∃ r, φ r ∧ C x0 k1_0 r :=
 mEnt (fd := Try.f63) (body := B) (V := W) (res := res) <|
 mLen 5 (eI .u32) x0 <|
 mFin 2 h
end slices_IndexFunc_sapi_Set_api_Set_attrset_keep_1_1
end Go.Own

namespace Go.Own
open Go.Proofs D
set_option maxRecDepth 100000
set_option maxHeartbeats 4000000
namespace slices_ContainsFunc_sapi_Set_api_Set_attrset_keep_1_1
noncomputable def B : Code := (Try.f55.body).getD .skip
def W : List Nat := [0, 1, 4]
def res (r : Bool) : D × List D := (.lit (.bool r), [])
def C (x0 : List Int) (k1_0 : Int) (r : Bool) : Prop := Ret env 55 [.sl (x0.map (eI .u32)), .fn 56 [.ref [.lit (.int .u32 k1_0)], .ref [.fn 46 []]]] (res r).1 (res r).2
theorem enter (x0 : List Int) (k1_0 : Int) (φ : Bool → Prop) (h :
    ∃ r1 : Int, slices_IndexFunc_sapi_Set_api_Set_attrset_keep_1_1.C x0 k1_0 r1 ∧
    φ ((decide (0 ≤ r1)))) : ∃ r, φ r ∧ C x0 k1_0 r :=
 mEnt (fd := Try.f55) (body := B) (V := W) (res := res) <|
 mCal 6 h (fun _ h => h) fun r1 _ h =>
 mRet 3 h
end slices_ContainsFunc_sapi_Set_api_Set_attrset_keep_1_1
end Go.Own

namespace Go.Own
open Go.Proofs D
set_option maxRecDepth 100000
set_option maxHeartbeats 4000000
namespace attrset_keep_1
noncomputable def B : Code := (Try.f54.body).getD .skip
def W : List Nat := [0, 1, 2, 3, 4]
def res (r : Bool) : D × List D := (.lit (.bool r), [])
def C (x0 : Int) (k1_0 : List Int) (r : Bool) : Prop := Ret env 54 [.lit (.int .u32 x0), .ref [.sl (k1_0.map (eI .u32))], .ref [.fn 46 []]] (res r).1 (res r).2
theorem enter (x0 : Int) (k1_0 : List Int) (φ : Bool → Prop) (h :
    ∃ r1 : Bool, slices_ContainsFunc_sapi_Set_api_Set_attrset_keep_1_1.C k1_0 x0 r1 ∧
    φ r1) : ∃ r, φ r ∧ C x0 k1_0 r :=
 mEnt (fd := Try.f54) (body := B) (V := W) (res := res) <|
 mCal 7 h (fun _ h => h) fun r1 _ h =>
 mRet 2 h
end attrset_keep_1
end Go.Own

namespace Go.Own
open Go.Proofs D
set_option maxRecDepth 100000
set_option maxHeartbeats 4000000
namespace slices_IndexFunc_sapi_Set_api_Set_attrset_keep_1
noncomputable def B : Code := (Try.f63.body).getD .skip
def W : List Nat := [0, 1, 4, 5, 7, 8, 9, 16]
def res (r : Int) : D × List D := (.lit (.int .i64 r), [])
def C (x0 : List Int) (k1_0 : List Int) (r : Int) : Prop := Ret env 63 [.sl (x0.map (eI .u32)), .fn 54 [.ref [.sl (k1_0.map (eI .u32))], .ref [.fn 46 []]]] (res r).1 (res r).2
def L1 (x0 : List Int) (k1_0 : List Int) (y8_L1 : Int) (φ : Int → Prop) : Prop := Pt env 63 W B [1, 0, 1, 0] [(0, .sl (x0.map (eI .u32))), (1, .fn 54 [.ref [.sl (k1_0.map (eI .u32))], .ref [.fn 46 []]]), (7, .lit (.int .i64 ((x0.length : Int)))), (8, .lit (.int .i64 y8_L1))] (Lv env 63 Try.f63 2 res φ)
theorem L1_step (x0 : List Int) (k1_0 : List Int) (y8_L1 : Int) (φ : Int → Prop) (h :
    (if y8_L1 < (x0.length : Int) then
      ∃ a1, lget x0 y8_L1 = some a1 ∧
      ∃ r3 : Bool, attrset_keep_1.C a1 k1_0 r3 ∧
      (if r3 = true then
        φ y8_L1
      else
        slices_IndexFunc_sapi_Set_api_Set_attrset_keep_1.L1 x0 k1_0 ((IntKind.wrap .i64 (y8_L1 + 1))) φ)
    else
      φ ((-1)))) : L1 x0 k1_0 y8_L1 φ :=
 mIn <|
 mAsk 2 h dT dF (fun h =>
 mIx 11 (eI .u32) h fun a1 h2 h =>
 mCalB 1 h (fun _ h => h) (fun _ h =>
 mRet 6 h) fun _ h =>
 mFin 7 h) fun h =>
 mRet 6 h
theorem enter (x0 : List Int) (k1_0 : List Int) (φ : Int → Prop) (h :
    slices_IndexFunc_sapi_Set_api_Set_attrset_keep_1.L1 x0 k1_0 0 φ) : ∃ r, φ r ∧ C x0 k1_0 r :=
 mEnt (fd := Try.f63) (body := B) (V := W) (res := res) <|
 mLen 5 (eI .u32) x0 <|
 mFin 2 h
end slices_IndexFunc_sapi_Set_api_Set_attrset_keep_1
end Go.Own

namespace Go.Own
open Go.Proofs D
set_option maxRecDepth 100000
set_option maxHeartbeats 4000000
namespace slices_DeleteFunc_sapi_Set_api_Set_attrset_keep_1
noncomputable def B : Code := (Try.f52.body).getD .skip
def W : List Nat := [0, 1, 4, 5, 6, 7, 12, 19, 29]
def res (r : (List Int × Bool)) : D × List D := ((sown (r.1.map (eI .u32)) r.2), [])
def C (k0_0 : List Int) (k1_0 : List Int) (r : (List Int × Bool)) : Prop := Ret env 52 [.own (k0_0.map (eI .u32)), .fn 54 [.ref [.sl (k1_0.map (eI .u32))], .ref [.fn 46 []]]] (res r).1 (res r).2
def L1 (k0_0 : List Int) (k1_0 : List Int) (r1 : Int) (y6_L1 : Int) (φ : (List Int × Bool) → Prop) : Prop := Pt env 52 W B [1, 1, 1, 0, 1, 0] [(0, .own (k0_0.map (eI .u32))), (1, .fn 54 [.ref [.sl (k1_0.map (eI .u32))], .ref [.fn 46 []]]), (5, .lit (.int .i64 r1)), (6, .lit (.int .i64 y6_L1))] (Lv env 52 Try.f52 2 res φ)
def L2 (k0_0 : List Int) (k1_0 : List Int) (r1 : Int) (y6_L1 : Int) (φ : (List Int × Bool) → Prop) : Prop := Pt env 52 W B [1, 1, 1, 0, 1, 0, 0, 1, 1] [(0, .own (k0_0.map (eI .u32))), (1, .fn 54 [.ref [.sl (k1_0.map (eI .u32))], .ref [.fn 46 []]]), (5, .lit (.int .i64 r1)), (6, .lit (.int .i64 y6_L1))] (Lv env 52 Try.f52 2 res φ)
theorem L1_step (k0_0 : List Int) (k1_0 : List Int) (r1 : Int) (y6_L1 : Int) (φ : (List Int × Bool) → Prop) (h :
    (if y6_L1 < (k0_0.length : Int) then
      ∃ a2, lget k0_0 y6_L1 = some a2 ∧
      ∃ r4 : Bool, attrset_keep_1.C a2 k1_0 r4 ∧
      (if r4 = true then
        slices_DeleteFunc_sapi_Set_api_Set_attrset_keep_1.L2 k0_0 k1_0 r1 y6_L1 φ
      else
        ∃ a5, lget k0_0 r1 = some a5 ∧
        slices_DeleteFunc_sapi_Set_api_Set_attrset_keep_1.L2 ((lset k0_0 r1 a2)) k1_0 ((IntKind.wrap .i64 (r1 + 1))) y6_L1 φ)
    else
      0 ≤ r1 ∧
      (r1.toNat ≤ k0_0.length ∧ k0_0.length ≤ k0_0.length) ∧
      r1.toNat + (k0_0.length - r1.toNat) ≤ k0_0.length ∧
      0 ≤ r1 ∧
      r1.toNat + (k0_0.length - r1.toNat) ≤ k0_0.length ∧
      r1.toNat ≤ k0_0.length ∧
      (r1.toNat + (k0_0.length - r1.toNat) ≤ k0_0.length ∧ r1.toNat ≤ k0_0.length ∧ r1.toNat ≤ r1.toNat) ∧
      φ (⟨(List.take r1.toNat k0_0), (!(((List.take r1.toNat k0_0)).isEmpty))⟩))) : L1 k0_0 k1_0 r1 y6_L1 φ :=
 mIn <|
 mLen 4 (eI .u32) k0_0 <|
 mAsk 0 h dT dF (fun h =>
 mIy 6 (eI .u32) h fun a2 h3 h =>
 mLd 0 (eI .u32) h3 <|
 mCalB 5 h (fun _ h => h) (fun _ h =>
 mFin 4 h) fun _ h =>
 mIy 7 (eI .u32) h fun a5 h6 h =>
 mSto 0 (eI .u32) a2 h6 <|
 mFin 6 h) fun h =>
 h.elim fun h7 h =>
 h.elim fun h8 h =>
 mVl 6 (val_slice_ow (s := 0) (ps := []) (t := 25) (x := (.tmp 36)) (lo := (some (.tmp 37))) (hi := none) (lo' := some (r1).toNat) (hi' := none) (e := (eI .u32)) (l := k0_0) (et := 31) (k := 1) (by kernel_rfl) (by kernel_rfl) (elemsOf_ow (by kernel_rfl)) (optNat_some (i := r1) (q := .i64) (by kernel_rfl) h7) optNat_none (by kernel_rfl) (by kernel_rfl) (fun _ => rfl) (by kernel_rfl) h8.1 h8.2) <|
 h.elim fun h9 h =>
 mOp 0 (op_clear (t := 25) (x := (.tmp 38)) (s := 0) (ps := []) (off := r1.toNat) (len := (k0_0.length - r1.toNat)) (l := k0_0) (e := (eI .u32)) (et := 31) (z := .lit (.int .u32 0)) (k := 1) (by kernel_rfl) (by kernel_rfl) (by kernel_rfl) (by kernel_rfl) (by kernel_rfl) (by kernel_rfl) (by kernel_rfl) (by kernel_rfl) (fun _ => rfl) h9 (by kernel_rfl)) <|
 h.elim fun h10 h =>
 h.elim fun h11 h =>
 h.elim fun h12 h =>
 mVl 4 (val_slice_clr (t := 25) (x := (.tmp 39)) (hi := (some (.tmp 40))) (hi' := r1.toNat) (e := (eI .u32)) (l := k0_0) (off := r1.toNat) (len := (k0_0.length - r1.toNat)) (z := .lit (.int .u32 0)) (et := 31) (k := 1) (s := 0) (ps := []) (by kernel_rfl) (by kernel_rfl) (by kernel_rfl) (optNat_some (i := r1) (q := .i64) (by kernel_rfl) h10) (by kernel_rfl) (by kernel_rfl) (fun _ => rfl) (by kernel_rfl) (by kernel_rfl) h11 h12) <|
 h.elim fun h13 h =>
 mRet 2 h (hl := (leave_sub (t := 4) (s := 0) (n := r1.toNat) (m := (List.take r1.toNat k0_0)) (e := (eI .u32)) (es := clr (eI .u32) k0_0 r1.toNat (k0_0.length - r1.toNat) (.lit (.int .u32 0))) (by kernel_rfl) (by kernel_rfl) (by kernel_rfl) (by rw [clr_len (by first | exact h13.1 | omega)]; exact h13.2.1) (clr_take h13.1 h13.2.2) (by kernel_rfl)))
theorem L2_step (k0_0 : List Int) (k1_0 : List Int) (r1 : Int) (y6_L1 : Int) (φ : (List Int × Bool) → Prop) (h :
    slices_DeleteFunc_sapi_Set_api_Set_attrset_keep_1.L1 k0_0 k1_0 r1 ((IntKind.wrap .i64 (y6_L1 + 1))) φ) : L2 k0_0 k1_0 r1 y6_L1 φ :=
 mIn <|
 mFin 5 h
theorem enter (k0_0 : List Int) (k1_0 : List Int) (φ : (List Int × Bool) → Prop) (h :
    ∃ r1 : Int, slices_IndexFunc_sapi_Set_api_Set_attrset_keep_1.C k0_0 k1_0 r1 ∧
    (if r1 = (-1) then
      φ (⟨k0_0, true⟩)
    else
      slices_DeleteFunc_sapi_Set_api_Set_attrset_keep_1.L1 k0_0 k1_0 r1 ((IntKind.wrap .i64 (r1 + 1))) φ)) : ∃ r, φ r ∧ C k0_0 k1_0 r :=
 mEnt (fd := Try.f52) (body := B) (V := W) (res := res) <|
 mCal 6 h (fun _ h => h) (hr := by exact (pr_snap (snap_ow (s := 0) (ps := []) (l := k0_0) (e := (eI .u32)) (e' := (eI .u32)) (fun _ => rfl) (by kernel_rfl)) (pr_k pr_nil))) fun r1 _ h =>
 mAsk 4 h beq_t beq_f (fun h =>
 mRet 6 h) fun h =>
 mFin 8 h
end slices_DeleteFunc_sapi_Set_api_Set_attrset_keep_1
end Go.Own

namespace Go.Own
open Go.Proofs D
set_option maxRecDepth 100000
set_option maxHeartbeats 4000000
namespace attrset_keep_attrset_Maximal_1
noncomputable def B : Code := (Try.f45.body).getD .skip
def W : List Nat := [0, 1, 3, 4, 5]
def res (r : List Int) : D × List D := (.sl (r.map (eI .u32)), [])
def C (x0 : List Int) (r : List Int) : Prop := Ret env 45 [.sl (x0.map (eI .u32)), .fn 46 []] (res r).1 (res r).2
theorem enter (x0 : List Int) (φ : List Int → Prop) (h :
    ∃ r1 : List Int, attrset_Order.C x0 r1 ∧
    r1.length * 4 ≤ 140737488355328 ∧
    ∃ r3 : (List Int × Bool), slices_DeleteFunc_sapi_Set_api_Set_attrset_keep_1.C r1 r1 r3 ∧
    φ r3.1) : ∃ r, φ r ∧ C x0 r :=
 mEnt (fd := Try.f45) (body := B) (V := W) (res := res) <|
 mCal 6 h (fun _ h => h) (hf := (fun _ => clF_both)) fun r1 _ h =>
 h.elim fun h2 h =>
 mCalP 5 (show Ret env 53 [.sl (r1.map (eI .u32))] (.own (r1.map (eI .u32))) [] from ret_clone (k := 1) (b := 4) (e := (eI .u32)) (l := r1) (by kernel_rfl) (fun _ => rfl) h2) (hf := (clF_flat (flat_ow (e := (eI .u32)) (fun _ => rfl)) rfl)) <|
 mCalE 1 h (fun _ h => h) (fun r3 => cold_sown (l := r3.1) (e := (eI .u32)) rfl (fun _ => rfl)) (hf := (fun _ => clF_flatR (flat_sown (e := (eI .u32)) (fun _ => rfl)) rfl)) fun r3 _ h =>
 mRet 2 h
end attrset_keep_attrset_Maximal_1
end Go.Own

namespace Go.Own
open Go.Proofs D
set_option maxRecDepth 100000
set_option maxHeartbeats 4000000
namespace attrset_Maximal
noncomputable def B : Code := (Try.f30.body).getD .skip
def W : List Nat := [0, 2]
def res (r : List Int) : D × List D := (.sl (r.map (eI .u32)), [])
def C (x0 : List Int) (r : List Int) : Prop := Ret env 30 [.sl (x0.map (eI .u32))] (res r).1 (res r).2
theorem enter (x0 : List Int) (φ : List Int → Prop) (h :
    ∃ r1 : List Int, attrset_keep_attrset_Maximal_1.C x0 r1 ∧
    φ r1) : ∃ r, φ r ∧ C x0 r :=
 mEnt (fd := Try.f30) (body := B) (V := W) (res := res) <|
 mCal 5 h (fun _ h => h) (hf := (fun _ => clF_both)) fun r1 _ h =>
 mRet 2 h
end attrset_Maximal
end Go.Own

namespace Go.Own
open Go.Proofs D
set_option maxRecDepth 100000
set_option maxHeartbeats 4000000
namespace drossref02_Maximal
noncomputable def B : Code := (Try.f33.body).getD .skip
def W : List Nat := [0, 2, 3, 4, 5, 6, 7, 13, 19, 40]
def res (r : List Int) : D × List D := (.own (r.map (eI .u32)), [])
def C (x0 : List Int) (r : List Int) : Prop := Ret env 33 [.sl (x0.map (eI .u32))] (res r).1 (res r).2
def L1 (y3_L1 : List Int) (r1 : List Int) (y5_L1 : Int) (φ : List Int → Prop) : Prop := Pt env 33 W B [1, 1, 1, 0, 1, 0] [(3, .own (y3_L1.map (eI .u32))), (4, .own (r1.map (eI .u32))), (5, .lit (.int .i64 y5_L1))] (Lv env 33 Try.f33 1 res φ)
def L2 (y3_L2 : List Int) (r1 : List Int) (y5_L2 : Int) (y6_L2 : Bool) (y7_L2 : Int) (φ : List Int → Prop) : Prop := Pt env 33 W B [1, 1, 1, 0, 1, 0, 0, 1, 0, 0, 1, 0, 1, 0] [(3, .own (y3_L2.map (eI .u32))), (4, .own (r1.map (eI .u32))), (5, .lit (.int .i64 y5_L2)), (6, .lit (.bool y6_L2)), (7, .lit (.int .i64 y7_L2))] (Lv env 33 Try.f33 1 res φ)
def L3 (y3_L3 : List Int) (r1 : List Int) (y5_L3 : Int) (y6_L3 : Bool) (y7_L2 : Int) (φ : List Int → Prop) : Prop := Pt env 33 W B [1, 1, 1, 0, 1, 0, 0, 1, 0, 0, 1, 0, 1, 0, 0, 1, 1] [(3, .own (y3_L3.map (eI .u32))), (4, .own (r1.map (eI .u32))), (5, .lit (.int .i64 y5_L3)), (6, .lit (.bool y6_L3)), (7, .lit (.int .i64 y7_L2))] (Lv env 33 Try.f33 1 res φ)
def L4 (y3_L4 : List Int) (r1 : List Int) (y5_L2 : Int) (φ : List Int → Prop) : Prop := Pt env 33 W B [1, 1, 1, 0, 1, 0, 0, 1, 1] [(3, .own (y3_L4.map (eI .u32))), (4, .own (r1.map (eI .u32))), (5, .lit (.int .i64 y5_L2))] (Lv env 33 Try.f33 1 res φ)
theorem L1_step (y3_L1 : List Int) (r1 : List Int) (y5_L1 : Int) (φ : List Int → Prop) (h :
    (if y5_L1 < (r1.length : Int) then
      drossref02_Maximal.L2 y3_L1 r1 y5_L1 true 0 φ
    else
      φ y3_L1)) : L1 y3_L1 r1 y5_L1 φ :=
 mIn <|
 mLen 4 (eI .u32) r1 <|
 mAsk 0 h dT dF (fun h =>
 mFin 9 h) fun h =>
 mRet 7 h
theorem L2_step (y3_L2 : List Int) (r1 : List Int) (y5_L2 : Int) (y6_L2 : Bool) (y7_L2 : Int) (φ : List Int → Prop) (h :
    (if y7_L2 < (r1.length : Int) then
      (if y6_L2 = true then
        (if y7_L2 = y5_L2 then
          drossref02_Maximal.L3 y3_L2 r1 y5_L2 true y7_L2 φ
        else
          ∃ a2, lget r1 y5_L2 = some a2 ∧
          ∃ a4, lget r1 y7_L2 = some a4 ∧
          ∃ r6 : Bool, drossref02_Sub.C a2 a4 r6 ∧
          drossref02_Maximal.L3 y3_L2 r1 y5_L2 ((not r6)) y7_L2 φ)
      else
        drossref02_Maximal.L3 y3_L2 r1 y5_L2 false y7_L2 φ)
    else
      (if y6_L2 = true then
        ∃ a7, lget r1 y5_L2 = some a7 ∧
        (y3_L2.length + 1) * 4 ≤ 140737488355328 ∧
        drossref02_Maximal.L4 ((y3_L2 ++ [a7])) r1 y5_L2 φ
      else
        drossref02_Maximal.L4 y3_L2 r1 y5_L2 φ))) : L2 y3_L2 r1 y5_L2 y6_L2 y7_L2 φ :=
 mIn <|
 mLen 4 (eI .u32) r1 <|
 mAsk 0 h dT dF (fun h =>
 mAsk 4 h id fls (fun h =>
 mAsk 3 h beq_t beq_f (fun h =>
 mFin 15 h) fun h =>
 mIy 3 (eI .u32) h fun a2 h3 h =>
 mLd 0 (eI .u32) h3 <|
 mIy 2 (eI .u32) h fun a4 h5 h =>
 mLd 0 (eI .u32) h5 <|
 mCal 0 h (fun _ h => h) fun r6 _ h =>
 mFin 5 h) fun h =>
 mFin 19 h) fun h =>
 mAsk 4 h id fls (fun h =>
 mIy 6 (eI .u32) h fun a7 h8 h =>
 mLd 0 (eI .u32) h8 <|
 mApp 1 (eI .u32) y3_L2 ([a7]) h fun h =>
 mFin 2 h) fun h =>
 mFin 3 h
theorem L3_step (y3_L3 : List Int) (r1 : List Int) (y5_L3 : Int) (y6_L3 : Bool) (y7_L2 : Int) (φ : List Int → Prop) (h :
    drossref02_Maximal.L2 y3_L3 r1 y5_L3 y6_L3 ((IntKind.wrap .i64 (y7_L2 + 1))) φ) : L3 y3_L3 r1 y5_L3 y6_L3 y7_L2 φ :=
 mIn <|
 mFin 5 h
theorem L4_step (y3_L4 : List Int) (r1 : List Int) (y5_L2 : Int) (φ : List Int → Prop) (h :
    drossref02_Maximal.L1 y3_L4 r1 ((IntKind.wrap .i64 (y5_L2 + 1))) φ) : L4 y3_L4 r1 y5_L2 φ :=
 mIn <|
 mFin 5 h
theorem enter (x0 : List Int) (φ : List Int → Prop) (h :
    ∃ r1 : List Int, drossref02_Order.C x0 r1 ∧
    drossref02_Maximal.L1 ([]) r1 0 φ) : ∃ r, φ r ∧ C x0 r :=
 mEnt (fd := Try.f33) (body := B) (V := W) (res := res) <|
 mCal 8 h (fun _ h => h) (hf := (fun _ => clF_flat (flat_ow (e := (eI .u32)) (fun _ => rfl)) rfl)) fun r1 _ h =>
 mFin 5 h
end drossref02_Maximal
end Go.Own

namespace Go.Own
open Go.Proofs D
set_option maxRecDepth 100000
set_option maxHeartbeats 4000000
namespace armstrong_MaxSets
noncomputable def B : Code := (Try.f15.body).getD .skip
def W : List Nat := [0, 1, 2, 6, 7, 8, 9, 10, 15, 23, 26, 27, 28, 36]
def res (r : List Int × Int) : D × List D := (.tup [.sl (r.1.map (eI .u32)), .lit (.int .i64 r.2)], [])
def C (x0 : Int) (x1 : List api_FD) (x2 : Int) (r : List Int × Int) : Prop := Ret env 15 [.lit (.int .i64 x0), .sl (x1.map enc_api_FD), .lit (.int .i64 x2)] (res r).1 (res r).2
def L1 (x1 : List api_FD) (x2 : Int) (y9_L1 : List Int) (y26_L1 : Int) (y27_L1 : Int) (φ : List Int × Int → Prop) : Prop := Pt env 15 W B [1, 1, 1, 1, 0, 1, 0] [(1, .sl (x1.map enc_api_FD)), (2, .lit (.int .i64 x2)), (9, .own (y9_L1.map (eI .u32))), (26, .lit (.int .u32 y26_L1)), (27, .lit (.int .u32 y27_L1))] (Lv env 15 Try.f15 3 res φ)
def L2 (x1 : List api_FD) (x2 : Int) (y9_L2 : List Int) (y26_L1 : Int) (y27_L1 : Int) (φ : List Int × Int → Prop) : Prop := Pt env 15 W B [1, 1, 1, 1, 0, 1, 0, 0, 1, 1, 1] [(1, .sl (x1.map enc_api_FD)), (2, .lit (.int .i64 x2)), (9, .own (y9_L2.map (eI .u32))), (26, .lit (.int .u32 y26_L1)), (27, .lit (.int .u32 y27_L1))] (Lv env 15 Try.f15 3 res φ)
theorem L1_step (x1 : List api_FD) (x2 : Int) (y9_L1 : List Int) (y26_L1 : Int) (y27_L1 : Int) (φ : List Int × Int → Prop) (h :
    (if y27_L1 < y26_L1 then
      ∃ r3 : Int, closure_Close.C x1 y27_L1 r3 ∧
      0 ≤ x2 ∧
      (if (bAnd .u32 (shrw .u32 r3 x2) 1) = 0 then
        (y9_L1.length + 1) * 4 ≤ 140737488355328 ∧
        armstrong_MaxSets.L2 x1 x2 ((y9_L1 ++ [y27_L1])) y26_L1 y27_L1 φ
      else
        armstrong_MaxSets.L2 x1 x2 y9_L1 y26_L1 y27_L1 φ)
    else
      ∃ r6 : List Int, attrset_Maximal.C y9_L1 r6 ∧
      φ ((r6, 0)))) : L1 x1 x2 y9_L1 y26_L1 y27_L1 φ :=
 mIn <|
 mAsk 2 h dT dF (fun h =>
 mCal 10 h (fun _ h => h) fun r3 _ h =>
 h.elim fun h4 h =>
 mBi 1 (bin_shr (t := 31) (q := .u32) (q' := .i64) (i1 := r3) h4) <|
 mAsk 1 h beq_t beq_f (fun h =>
 mApp 6 (eI .u32) y9_L1 ([y27_L1]) h fun h =>
 mFin 2 h) fun h =>
 mFin 3 h) fun h =>
 mXit 2 [(9, .sl (y9_L1.map (eI .u32)))] (trim_chillW (F0 := [(9, .own (y9_L1.map (eI .u32)))]) (l := y9_L1) (e := (eI .u32)) (e' := (eI .u32)) (s := 9) (by kernel_rfl) (by kernel_rfl) (by kernel_rfl) (fun _ => rfl) (by kernel_rfl) (by kernel_rfl)) <|
 mCal 2 h (fun _ h => h) (hf := (fun _ => clF_both)) fun r6 _ h =>
 mRet 3 h
theorem L2_step (x1 : List api_FD) (x2 : Int) (y9_L2 : List Int) (y26_L1 : Int) (y27_L1 : Int) (φ : List Int × Int → Prop) (h :
    armstrong_MaxSets.L1 x1 x2 y9_L2 y26_L1 ((IntKind.wrap .u32 (y27_L1 + 1))) φ) : L2 x1 x2 y9_L2 y26_L1 y27_L1 φ :=
 mIn <|
 mFin 4 h
theorem enter (x0 : Int) (x1 : List api_FD) (x2 : Int) (φ : List Int × Int → Prop) (h :
    ∃ r1 : Int, armstrong_check.C x0 x1 r1 ∧
    (if r1 = 0 then
      (if x2 < 0 then
        φ (([], 6))
      else
        (if x0 ≤ x2 then
          φ (([], 6))
        else
          ∃ r2 : Int, armstrong_full.C x0 r2 ∧
          armstrong_MaxSets.L1 x1 x2 ([]) ((IntKind.wrap .u32 (r2 + 1))) 0 φ))
    else
      φ (([], r1)))) : ∃ r, φ r ∧ C x0 x1 x2 r :=
 mEnt (fd := Try.f15) (body := B) (V := W) (res := res) <|
 mCal 7 h (fun _ h => h) fun r1 _ h =>
 mAskN 4 h bne_t bne_f (fun h =>
 mRet 7 h) fun h =>
 mAsk 5 h dT dF (fun h =>
 mRet 11 h) fun h =>
 mAsk 3 h dT dF (fun h =>
 mRet 7 h) fun h =>
 mCal 9 h (fun _ h => h) fun r2 _ h =>
 mFin 3 h
end armstrong_MaxSets
end Go.Own

namespace Go.Own
open Go.Proofs D
set_option maxRecDepth 100000
set_option maxHeartbeats 4000000
namespace drossref09_List
noncomputable def B : Code := (Try.f37.body).getD .skip
def W : List Nat := [0, 1, 4, 5, 6, 7, 13]
def res (r : List api_FD) : D × List D := (.own (r.map enc_api_FD), [])
def C (x0 : Int) (x1 : List drossref09_Dep) (r : List api_FD) : Prop := Ret env 37 [.lit (.int .i64 x0), .sl (x1.map enc_drossref09_Dep)] (res r).1 (res r).2
def L1 (x1 : List drossref09_Dep) (r1 : Int) (y6_L1 : List api_FD) (y7_L1 : Int) (φ : List api_FD → Prop) : Prop := Pt env 37 W B [1, 1, 1, 0, 1, 0] [(1, .sl (x1.map enc_drossref09_Dep)), (5, .lit (.int .u32 r1)), (6, .own (y6_L1.map enc_api_FD)), (7, .lit (.int .i64 y7_L1))] (Lv env 37 Try.f37 2 res φ)
theorem L1_step (x1 : List drossref09_Dep) (r1 : Int) (y6_L1 : List api_FD) (y7_L1 : Int) (φ : List api_FD → Prop) (h :
    (if y7_L1 < (x1.length : Int) then
      ∃ a2, lget x1 y7_L1 = some a2 ∧
      (y6_L1.length + 1) * 8 ≤ 140737488355328 ∧
      drossref09_List.L1 x1 r1 ((y6_L1 ++ [(⟨(bAnd .u32 (IntKind.wrap .u32 a2.L) r1), (bAnd .u32 (IntKind.wrap .u32 a2.R) r1)⟩ : api_FD)])) ((IntKind.wrap .i64 (y7_L1 + 1))) φ
    else
      φ y6_L1)) : L1 x1 r1 y6_L1 y7_L1 φ :=
 mIn <|
 mLen 4 enc_drossref09_Dep x1 <|
 mAsk 0 h dT dF (fun h =>
 mIx 7 enc_drossref09_Dep h fun a2 h3 h =>
 mIxf 7 enc_drossref09_Dep h3 <|
 mApp 7 enc_api_FD y6_L1 ([(⟨(bAnd .u32 (IntKind.wrap .u32 a2.L) r1), (bAnd .u32 (IntKind.wrap .u32 a2.R) r1)⟩ : api_FD)]) h fun h =>
 mFin 7 h) fun h =>
 mRet 7 h
theorem enter (x0 : Int) (x1 : List drossref09_Dep) (φ : List api_FD → Prop) (h :
    ∃ r1 : Int, drossref02_Full.C x0 r1 ∧
    drossref09_List.L1 x1 r1 ([]) 0 φ) : ∃ r, φ r ∧ C x0 x1 r :=
 mEnt (fd := Try.f37) (body := B) (V := W) (res := res) <|
 mCal 5 h (fun _ h => h) fun r1 _ h =>
 mFin 8 h
end drossref09_List
end Go.Own

namespace Go.Own
open Go.Proofs D
set_option maxRecDepth 100000
set_option maxHeartbeats 4000000
namespace drossref09_Of
noncomputable def B : Code := (Try.f20.body).getD .skip
def W : List Nat := [0, 1, 2, 3, 4, 5]
def res (r : Int × List api_FD × Bool) : D × List D := (.tup [.lit (.int .i64 r.1), .sl (r.2.1.map enc_api_FD), .lit (.bool r.2.2)], [])
def C (x0 : drossref09_Deps) (r : Int × List api_FD × Bool) : Prop := Ret env 20 [.agg [.lit (.int .u8 x0.N), .sl (x0.L.map enc_drossref09_Dep)]] (res r).1 (res r).2
theorem enter (x0 : drossref09_Deps) (φ : Int × List api_FD × Bool → Prop) (h :
    ∃ r1 : List api_FD, drossref09_List.C ((IntKind.wrap .i64 (Int.tmod x0.N 7))) x0.L r1 ∧
    φ (((IntKind.wrap .i64 (Int.tmod x0.N 7)), r1, (decide ((x0.L.length : Int) ≤ 6))))) : ∃ r, φ r ∧ C x0 r :=
 mEnt (fd := Try.f20) (body := B) (V := W) (res := res) <|
 mLoE 18 h (fun _ h => h) (fun r1 => cold_ow (l := r1) (e := enc_api_FD) (e' := enc_api_FD) rfl (fun _ => rfl)) (hf := (fun _ => loF_flat (flat_ow (e := enc_api_FD) (fun _ => rfl)))) fun r1 _ h =>
 mLen 2 enc_drossref09_Dep x0.L <|
 mRet 5 h
end drossref09_Of
end Go.Own

namespace Go.Own
open Go.Proofs D
set_option maxRecDepth 100000
set_option maxHeartbeats 4000000
namespace drosslaw19_awake
noncomputable def B : Code := (Try.f7.body).getD .skip
def W : List Nat := [0, 1, 2, 3, 4, 5, 6, 7, 8, 9]
def res (r : Bool) : D × List D := (.lit (.bool r), [])
def C  (r : Bool) : Prop := Ret env 7 [] (res r).1 (res r).2
end drosslaw19_awake
end Go.Own

namespace Go.Own
set_option maxRecDepth 1000000
theorem drosslaw19_awake.run : callN env 400 7 [] = some (.lit (.bool true), []) := by kernel_rfl
theorem drosslaw19_awake.spec : drosslaw19_awake.C true := Ret.of drosslaw19_awake.run
end Go.Own

namespace Go.Own
open Go.Proofs D
set_option maxRecDepth 100000
set_option maxHeartbeats 4000000
namespace drosslaw19_ArmstrongMeet
noncomputable def B : Code := (Try.f6.body).getD .skip
def W : List Nat := [0, 1, 2, 3, 4, 5, 6, 7, 9, 10, 12, 13, 14, 15, 16, 28, 37, 40, 41, 42, 43, 48, 49, 50, 51, 56, 63, 65, 66, 67, 77]
def res (r : Bool) : D × List D := (.lit (.bool r), [])
def C (x0 : drossref09_Deps) (r : Bool) : Prop := Ret env 6 [.agg [.lit (.int .u8 x0.N), .sl (x0.L.map enc_drossref09_Dep)]] (res r).1 (res r).2
def L1 (r1 : Int × List api_FD × Bool) (r3 : List Int × Int) (r4 : List Int) (y42_L1 : Int) (φ : Bool → Prop) : Prop := Pt env 6 W B [1, 1, 1, 1, 1, 0, 1, 0] [(3, .lit (.int .i64 r1.1)), (4, .sl (r1.2.1.map enc_api_FD)), (6, .sl (r3.1.map (eI .u32))), (40, .own (r4.map (eI .u32))), (41, .lit (.int .i64 ((r4.length : Int)))), (42, .lit (.int .i64 y42_L1))] (Lv env 6 Try.f6 1 res φ)
def L2  (φ : Bool → Prop) : Prop := Pt env 6 W B [1, 1, 0, 1, 0, 0] [] (Lv env 6 Try.f6 1 res φ)
def L3 (r1 : Int × List api_FD × Bool) (r3 : List Int × Int) (a10 : Int) (r12 : Int) (r4 : List Int) (y42_L3 : Int) (y50_L3 : Int) (φ : Bool → Prop) : Prop := Pt env 6 W B [1, 1, 1, 1, 1, 0, 1, 0, 0, 1, 1, 0, 0, 1, 1, 0, 1, 0] [(3, .lit (.int .i64 r1.1)), (4, .sl (r1.2.1.map enc_api_FD)), (6, .sl (r3.1.map (eI .u32))), (9, .lit (.int .u32 a10)), (10, .lit (.int .u32 r12)), (40, .own (r4.map (eI .u32))), (41, .lit (.int .i64 ((r4.length : Int)))), (42, .lit (.int .i64 y42_L3)), (48, .sl (r3.1.map (eI .u32))), (49, .lit (.int .i64 ((r3.1.length : Int)))), (50, .lit (.int .i64 y50_L3))] (Lv env 6 Try.f6 1 res φ)
def L4 (r1 : Int × List api_FD × Bool) (r3 : List Int × Int) (y13_L4 : List Int) (y66_L4 : Int) (φ : Bool → Prop) : Prop := Pt env 6 W B [1, 1, 1, 1, 1, 1, 1, 0, 1, 0] [(3, .lit (.int .i64 r1.1)), (4, .sl (r1.2.1.map enc_api_FD)), (6, .sl (r3.1.map (eI .u32))), (13, .own (y13_L4.map (eI .u32))), (65, .lit (.int .i64 r1.1)), (66, .lit (.int .i64 y66_L4))] (Lv env 6 Try.f6 1 res φ)
def L5 (r1 : Int × List api_FD × Bool) (r3 : List Int × Int) (a10 : Int) (y10_L5 : Int) (r4 : List Int) (y42_L5 : Int) (y50_L3 : Int) (φ : Bool → Prop) : Prop := Pt env 6 W B [1, 1, 1, 1, 1, 0, 1, 0, 0, 1, 1, 0, 0, 1, 1, 0, 1, 0, 0, 1, 1, 1] [(3, .lit (.int .i64 r1.1)), (4, .sl (r1.2.1.map enc_api_FD)), (6, .sl (r3.1.map (eI .u32))), (9, .lit (.int .u32 a10)), (10, .lit (.int .u32 y10_L5)), (40, .own (r4.map (eI .u32))), (41, .lit (.int .i64 ((r4.length : Int)))), (42, .lit (.int .i64 y42_L5)), (48, .sl (r3.1.map (eI .u32))), (49, .lit (.int .i64 ((r3.1.length : Int)))), (50, .lit (.int .i64 y50_L3))] (Lv env 6 Try.f6 1 res φ)
theorem L1_step (r1 : Int × List api_FD × Bool) (r3 : List Int × Int) (r4 : List Int) (y42_L1 : Int) (φ : Bool → Prop) (h :
    (if y42_L1 < (r4.length : Int) then
      ∃ a98, lget r4 y42_L1 = some a98 ∧
      ∃ r100 : Int, drossref02_Full.C r1.1 r100 ∧
      drosslaw19_ArmstrongMeet.L3 r1 r3 a98 r100 r4 y42_L1 0 φ
    else
      drosslaw19_ArmstrongMeet.L4 r1 r3 ([]) 0 φ)) : L1 r1 r3 r4 y42_L1 φ :=
 mIn <|
 mAsk 2 h dT dF (fun h =>
 mIy 4 (eI .u32) h fun a98 h99 h =>
 mLd 0 (eI .u32) h99 <|
 mCal 4 h (fun _ h => h) fun r100 _ h =>
 mLen 4 (eI .u32) r3.1 <|
 mFin 2 h) fun h =>
 mFin 10 h
theorem L2_step  (φ : Bool → Prop) (h :
    ∃ r101 : Bool, drosslaw19_awake.C  r101 ∧
    φ r101) : L2  φ :=
 mIn <|
 mCal 1 h (fun _ h => h) fun r101 _ h =>
 mRet 2 h
theorem L3_step (r1 : Int × List api_FD × Bool) (r3 : List Int × Int) (a10 : Int) (r12 : Int) (r4 : List Int) (y42_L3 : Int) (y50_L3 : Int) (φ : Bool → Prop) (h :
    (if y50_L3 < (r3.1.length : Int) then
      ∃ a102, lget r3.1 y50_L3 = some a102 ∧
      ∃ r104 : Bool, drossref02_Sub.C a10 a102 r104 ∧
      (if r104 = true then
        drosslaw19_ArmstrongMeet.L5 r1 r3 a10 ((bAnd .u32 r12 a102)) r4 y42_L3 y50_L3 φ
      else
        drosslaw19_ArmstrongMeet.L5 r1 r3 a10 r12 r4 y42_L3 y50_L3 φ)
    else
      (if r12 = a10 then
        drosslaw19_ArmstrongMeet.L1 r1 r3 r4 ((IntKind.wrap .i64 (y42_L3 + 1))) φ
      else
        φ false))) : L3 r1 r3 a10 r12 r4 y42_L3 y50_L3 φ :=
 mIn <|
 mAsk 2 h dT dF (fun h =>
 mIx 4 (eI .u32) h fun a102 h103 h =>
 mCalB 6 h (fun _ h => h) (fun _ h =>
 mFin 8 h) fun _ h =>
 mFin 3 h) fun h =>
 mAskN 6 h bne_t bne_f (fun h =>
 mRet 5 h) fun h =>
 mFin 7 h
theorem L4_step (r1 : Int × List api_FD × Bool) (r3 : List Int × Int) (y13_L4 : List Int) (y66_L4 : Int) (φ : Bool → Prop) (h :
    (if y66_L4 < r1.1 then
      ∃ r105 : List Int × Int, armstrong_MaxSets.C r1.1 r1.2.1 y66_L4 r105 ∧
      (if r105.2 = 0 then
        (y13_L4.length + r105.1.length) * 4 ≤ 140737488355328 ∧
        drosslaw19_ArmstrongMeet.L4 r1 r3 ((y13_L4 ++ r105.1)) ((IntKind.wrap .i64 (y66_L4 + 1))) φ
      else
        φ false)
    else
      ∃ r107 : List Int, drossref02_Order.C y13_L4 r107 ∧
      ∃ r108 : Bool, drossref02_Same.C r107 r3.1 r108 ∧
      φ r108)) : L4 r1 r3 y13_L4 y66_L4 φ :=
 mIn <|
 mAsk 2 h dT dF (fun h =>
 mCal 11 h (fun _ h => h) (hf := (fun _ => clF_both)) fun r105 _ h =>
 mAskN 8 h bne_t bne_f (fun h =>
 mRet 5 h) fun h =>
 mApp 6 (eI .u32) y13_L4 r105.1 h fun h =>
 mFin 6 h) fun h =>
 mCal 5 h (fun _ h => h) (hr := by exact (pr_snap (snap_ow (s := 13) (ps := []) (l := y13_L4) (e := (eI .u32)) (e' := (eI .u32)) (fun _ => rfl) (by kernel_rfl)) pr_nil)) (hf := (fun _ => clF_flat (flat_ow (e := (eI .u32)) (fun _ => rfl)) rfl)) fun r107 _ h =>
 mCal 1 h (fun _ h => h) (hr := by exact (pr_snap (snap_ow (s := 83) (ps := []) (l := r107) (e := (eI .u32)) (e' := (eI .u32)) (fun _ => rfl) (by kernel_rfl)) (pr_k pr_nil))) fun r108 _ h =>
 mRet 2 h
theorem L5_step (r1 : Int × List api_FD × Bool) (r3 : List Int × Int) (a10 : Int) (y10_L5 : Int) (r4 : List Int) (y42_L5 : Int) (y50_L3 : Int) (φ : Bool → Prop) (h :
    drosslaw19_ArmstrongMeet.L3 r1 r3 a10 y10_L5 r4 y42_L5 ((IntKind.wrap .i64 (y50_L3 + 1))) φ) : L5 r1 r3 a10 y10_L5 r4 y42_L5 y50_L3 φ :=
 mIn <|
 mFin 4 h
theorem enter (x0 : drossref09_Deps) (φ : Bool → Prop) (h :
    ∃ r94 : Int × List api_FD × Bool, drossref09_Of.C x0 r94 ∧
    ∃ r95 : Bool, drosslaw19_awake.C  r95 ∧
    (if r95 = true then
      (if r94.2.2 = true then
        ∃ r96 : List Int × Int, armstrong_Irreducible.C r94.1 r94.2.1 r96 ∧
        (if r96.2 = 0 then
          ∃ r97 : List Int, drossref19_Closed.C r94.1 r94.2.1 r97 ∧
          drosslaw19_ArmstrongMeet.L1 r94 r96 r97 0 φ
        else
          φ false)
      else
        drosslaw19_ArmstrongMeet.L2  φ)
    else
      drosslaw19_ArmstrongMeet.L2  φ)) : ∃ r, φ r ∧ C x0 r :=
 mEnt (fd := Try.f6) (body := B) (V := W) (res := res) <|
 mCal 6 h (fun _ h => h) (hf := (fun _ => clF_both)) fun r94 _ h =>
 mCalB 9 h (fun _ h => h) (fun _ h =>
 mAsk 2 h id fls (fun h =>
 mCalE 8 h (fun _ h => h) (fun r96 => cold_tup rfl (fcs_cons (freeze_ow (e := (eI .u32)) (e' := (eI .u32)) (fun _ => rfl) r96.1) (fcs_cons rfl fcs_nil))) (hf := (fun _ => clF_flat (flat_tup (flts_cons (flat_ow (e := (eI .u32)) (fun _ => rfl)) (flts_cons rfl flts_nil))) rfl)) fun r96 _ h =>
 mAskN 8 h bne_t bne_f (fun h =>
 mRet 5 h) fun h =>
 mCal 6 h (fun _ h => h) (hf := (fun _ => clF_flat (flat_ow (e := (eI .u32)) (fun _ => rfl)) rfl)) fun r97 _ h =>
 mLen 0 (eI .u32) r97 <|
 mFin 2 h) fun h =>
 mFin 4 h) fun _ h =>
 mFin 7 h
end drosslaw19_ArmstrongMeet
end Go.Own
