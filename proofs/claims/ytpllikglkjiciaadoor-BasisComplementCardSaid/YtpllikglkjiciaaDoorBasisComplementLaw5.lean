/- What the functions that the law reaches answer. No conditions. -/
import Derived.Test.YtpllikglkjiciaaDoorBase4
import Derived.Test.YtpllikglkjiciaaDoorOwn15
import Derived.Test.YtpllikglkjiciaaDoorBase1
import Derived.Test.YtpllikglkjiciaaDoorOwn21
set_option linter.all false

namespace Go.Own
open Go.Proofs D
set_option maxRecDepth 100000
set_option maxHeartbeats 4000000
namespace drossref02_Full
noncomputable def B : Code := (Tryd.f33.body).getD .skip
def W : List Nat := [0, 2, 3, 4, 11]
def res (r : Int) : D × List D := (.lit (.int .u32 r), [])
def C (x0 : Int) (r : Int) : Prop := Ret env 33 [.lit (.int .i64 x0)] (res r).1 (res r).2
def L1 (x0 : Int) (y3_L1 : Int) (y4_L1 : Int) (φ : Int → Prop) : Prop := Pt env 33 W B [1, 1, 0, 1, 0] [(0, .lit (.int .i64 x0)), (3, .lit (.int .u32 y3_L1)), (4, .lit (.int .i64 y4_L1))] (Lv env 33 Tryd.f33 1 res φ)
theorem L1_step (x0 : Int) (y3_L1 : Int) (y4_L1 : Int) (φ : Int → Prop) (h :
    (if y4_L1 < x0 then
      (if y4_L1 < 32 then
        0 ≤ y4_L1 ∧
        drossref02_Full.L1 x0 ((bOr .u32 y3_L1 (shlw .u32 1 y4_L1))) ((IntKind.wrap .i64 (y4_L1 + 1))) φ
      else
        φ y3_L1)
    else
      φ y3_L1)) : L1 x0 y3_L1 y4_L1 φ :=
 mIn <|
 mAsk 4 h dT dF (fun h =>
 mAsk 2 h dT dF (fun h =>
 h.elim fun h1 h =>
 mBi 7 (bin_shl (t := 29) (q := .u32) (q' := .i64) (i1 := 1) h1) <|
 mFin 8 h) fun h =>
 mRet 8 h) fun h =>
 mRet 11 h
theorem enter (x0 : Int) (φ : Int → Prop) (h :
    drossref02_Full.L1 x0 0 0 φ) : ∃ r, φ r ∧ C x0 r :=
 mEnt (fd := Tryd.f33) (body := B) (V := W) (res := res) <|
 mFin 9 h
end drossref02_Full
end Go.Own

namespace Go.Own
open Go.Proofs D
set_option maxRecDepth 100000
set_option maxHeartbeats 4000000
namespace closure_Valid
noncomputable def B : Code := (Tryd.f22.body).getD .skip
def W : List Nat := [0, 1, 4, 6, 12, 15, 16, 17, 18, 19, 29]
def res (r : Int) : D × List D := (.lit (.int .i64 r), [])
def C (x0 : Int) (x1 : List api_FD) (r : Int) : Prop := Ret env 22 [.lit (.int .i64 x0), .sl (x1.map enc_api_FD)] (res r).1 (res r).2
def L1 (x0 : Int) (x1 : List api_FD) (y18_L1 : Int) (φ : Int → Prop) : Prop := Pt env 22 W B [1, 1, 1, 0, 1, 0] [(0, .lit (.int .i64 x0)), (1, .sl (x1.map enc_api_FD)), (16, .sl (x1.map enc_api_FD)), (17, .lit (.int .i64 ((x1.length : Int)))), (18, .lit (.int .i64 y18_L1))] (Lv env 22 Tryd.f22 2 res φ)
theorem L1_step (x0 : Int) (x1 : List api_FD) (y18_L1 : Int) (φ : Int → Prop) (h :
    (if y18_L1 < (x1.length : Int) then
      ∃ a1, lget x1 y18_L1 = some a1 ∧
      0 ≤ x0 ∧
      (if (shrw .u32 (bOr .u32 a1.Lhs a1.Rhs) x0) = 0 then
        closure_Valid.L1 x0 x1 ((IntKind.wrap .i64 (y18_L1 + 1))) φ
      else
        φ 1)
    else
      φ 0)) : L1 x0 x1 y18_L1 φ :=
 mIn <|
 mAsk 2 h dT dF (fun h =>
 mIx 4 enc_api_FD h fun a1 h2 h =>
 h.elim fun h3 h =>
 mBi 11 (bin_shr (t := 29) (q := .u32) (q' := .i64) (i1 := (bOr .u32 a1.Lhs a1.Rhs)) h3) <|
 mAskN 0 h bne_t bne_f (fun h =>
 mRet 5 h) fun h =>
 mFin 7 h) fun h =>
 mRet 6 h
theorem enter (x0 : Int) (x1 : List api_FD) (φ : Int → Prop) (h :
    (if x0 < 0 then
      φ 7
    else
      (if 16 < x0 then
        φ 7
      else
        (if 64 < (x1.length : Int) then
          φ 3
        else
          closure_Valid.L1 x0 x1 0 φ)))) : ∃ r, φ r ∧ C x0 x1 r :=
 mEnt (fd := Tryd.f22) (body := B) (V := W) (res := res) <|
 mAsk 5 h dT dF (fun h =>
 mRet 9 h) fun h =>
 mAsk 2 h dT dF (fun h =>
 mRet 6 h) fun h =>
 mLen 6 enc_api_FD x1 <|
 mAsk 0 h dT dF (fun h =>
 mRet 5 h) fun h =>
 mLen 5 enc_api_FD x1 <|
 mFin 2 h
end closure_Valid
end Go.Own

namespace Go.Own
open Go.Proofs D
set_option maxRecDepth 100000
set_option maxHeartbeats 4000000
namespace basis_Valid
noncomputable def B : Code := (Tryd.f7.body).getD .skip
def W : List Nat := [0, 1, 2, 6, 7, 9, 14, 18, 19, 20, 21, 22, 32]
def res (r : Int) : D × List D := (.lit (.int .i64 r), [])
def C (x0 : Int) (x1 : List api_FD) (x2 : List api_MVD) (r : Int) : Prop := Ret env 7 [.lit (.int .i64 x0), .sl (x1.map enc_api_FD), .sl (x2.map enc_api_MVD)] (res r).1 (res r).2
def L1 (x0 : Int) (x2 : List api_MVD) (y21_L1 : Int) (φ : Int → Prop) : Prop := Pt env 7 W B [1, 1, 1, 0, 1, 0] [(0, .lit (.int .i64 x0)), (2, .sl (x2.map enc_api_MVD)), (19, .sl (x2.map enc_api_MVD)), (20, .lit (.int .i64 ((x2.length : Int)))), (21, .lit (.int .i64 y21_L1))] (Lv env 7 Tryd.f7 3 res φ)
theorem L1_step (x0 : Int) (x2 : List api_MVD) (y21_L1 : Int) (φ : Int → Prop) (h :
    (if y21_L1 < (x2.length : Int) then
      ∃ a2, lget x2 y21_L1 = some a2 ∧
      0 ≤ x0 ∧
      (if (shrw .u32 (bOr .u32 a2.Lhs a2.Rhs) x0) = 0 then
        basis_Valid.L1 x0 x2 ((IntKind.wrap .i64 (y21_L1 + 1))) φ
      else
        φ 1)
    else
      φ 0)) : L1 x0 x2 y21_L1 φ :=
 mIn <|
 mAsk 2 h dT dF (fun h =>
 mIx 4 enc_api_MVD h fun a2 h3 h =>
 h.elim fun h4 h =>
 mBi 11 (bin_shr (t := 29) (q := .u32) (q' := .i64) (i1 := (bOr .u32 a2.Lhs a2.Rhs)) h4) <|
 mAskN 0 h bne_t bne_f (fun h =>
 mRet 5 h) fun h =>
 mFin 7 h) fun h =>
 mRet 6 h
theorem enter (x0 : Int) (x1 : List api_FD) (x2 : List api_MVD) (φ : Int → Prop) (h :
    ∃ r1 : Int, closure_Valid.C x0 x1 r1 ∧
    (if r1 = 0 then
      (if 64 < (x2.length : Int) then
        φ 3
      else
        basis_Valid.L1 x0 x2 0 φ)
    else
      φ r1)) : ∃ r, φ r ∧ C x0 x1 x2 r :=
 mEnt (fd := Tryd.f7) (body := B) (V := W) (res := res) <|
 mCal 6 h (fun _ h => h) fun r1 _ h =>
 mAskN 4 h bne_t bne_f (fun h =>
 mRet 6 h) fun h =>
 mLen 5 enc_api_MVD x2 <|
 mAsk 0 h dT dF (fun h =>
 mRet 5 h) fun h =>
 mLen 5 enc_api_MVD x2 <|
 mFin 2 h
end basis_Valid
end Go.Own

namespace Go.Own
open Go.Proofs D
set_option maxRecDepth 100000
set_option maxHeartbeats 4000000
namespace drossref02_Sub
noncomputable def B : Code := (Tryd.f34.body).getD .skip
def W : List Nat := [0, 1, 4]
def res (r : Bool) : D × List D := (.lit (.bool r), [])
def C (x0 : Int) (x1 : Int) (r : Bool) : Prop := Ret env 34 [.lit (.int .u32 x0), .lit (.int .u32 x1)] (res r).1 (res r).2
theorem enter (x0 : Int) (x1 : Int) (φ : Bool → Prop) (h :
    φ (((bAnd .u32 x0 x1) == x0))) : ∃ r, φ r ∧ C x0 x1 r :=
 mEnt (fd := Tryd.f34) (body := B) (V := W) (res := res) <|
 mRet 11 h
end drossref02_Sub
end Go.Own

namespace Go.Own
open Go.Proofs D
set_option maxRecDepth 100000
set_option maxHeartbeats 4000000
namespace drossref09_Valid
noncomputable def B : Code := (Tryd.f23.body).getD .skip
def W : List Nat := [0, 1, 4, 5, 6, 12, 15, 21, 41]
def res (r : Int) : D × List D := (.lit (.int .i64 r), [])
def C (x0 : Int) (x1 : List api_FD) (r : Int) : Prop := Ret env 23 [.lit (.int .i64 x0), .sl (x1.map enc_api_FD)] (res r).1 (res r).2
def L1 (x1 : List api_FD) (r1 : Int) (y6_L1 : Int) (φ : Int → Prop) : Prop := Pt env 23 W B [1, 1, 1, 1, 0, 1, 0] [(1, .sl (x1.map enc_api_FD)), (5, .lit (.int .u32 r1)), (6, .lit (.int .i64 y6_L1))] (Lv env 23 Tryd.f23 2 res φ)
theorem L1_step (x1 : List api_FD) (r1 : Int) (y6_L1 : Int) (φ : Int → Prop) (h :
    (if y6_L1 < (x1.length : Int) then
      ∃ a2, lget x1 y6_L1 = some a2 ∧
      ∃ r4 : Bool, drossref02_Sub.C a2.Lhs r1 r4 ∧
      (if r4 = true then
        ∃ r5 : Bool, drossref02_Sub.C a2.Rhs r1 r5 ∧
        (if r5 = true then
          drossref09_Valid.L1 x1 r1 ((IntKind.wrap .i64 (y6_L1 + 1))) φ
        else
          φ 1)
      else
        φ 1)
    else
      φ 0)) : L1 x1 r1 y6_L1 φ :=
 mIn <|
 mLen 4 enc_api_FD x1 <|
 mAsk 0 h dT dF (fun h =>
 mIx 6 enc_api_FD h fun a2 h3 h =>
 mCalB 3 h (fun _ h => h) (fun _ h =>
 mIxf 4 enc_api_FD h3 <|
 mCalB 3 h (fun _ h => h) (fun _ h =>
 mFin 10 h) fun _ h =>
 mRet 7 h) fun _ h =>
 mRet 16 h) fun h =>
 mRet 6 h
theorem enter (x0 : Int) (x1 : List api_FD) (φ : Int → Prop) (h :
    (if x0 < 0 then
      φ 7
    else
      (if 16 < x0 then
        φ 7
      else
        (if 64 < (x1.length : Int) then
          φ 3
        else
          ∃ r1 : Int, drossref02_Full.C x0 r1 ∧
          drossref09_Valid.L1 x1 r1 0 φ)))) : ∃ r, φ r ∧ C x0 x1 r :=
 mEnt (fd := Tryd.f23) (body := B) (V := W) (res := res) <|
 mAsk 5 h dT dF (fun h =>
 mRet 9 h) fun h =>
 mAsk 2 h dT dF (fun h =>
 mRet 6 h) fun h =>
 mLen 6 enc_api_FD x1 <|
 mAsk 0 h dT dF (fun h =>
 mRet 5 h) fun h =>
 mCal 5 h (fun _ h => h) fun r1 _ h =>
 mFin 5 h
end drossref09_Valid
end Go.Own

namespace Go.Own
open Go.Proofs D
set_option maxRecDepth 100000
set_option maxHeartbeats 4000000
namespace drossref13_within
noncomputable def B : Code := (Tryd.f24.body).getD .skip
def W : List Nat := [0, 1, 4]
def res (r : Bool) : D × List D := (.lit (.bool r), [])
def C (x0 : Int) (x1 : Int) (r : Bool) : Prop := Ret env 24 [.lit (.int .i64 x0), .lit (.int .u32 x1)] (res r).1 (res r).2
theorem enter (x0 : Int) (x1 : Int) (φ : Bool → Prop) (h :
    ∃ r1 : Int, drossref02_Full.C x0 r1 ∧
    ∃ r2 : Bool, drossref02_Sub.C x1 r1 r2 ∧
    φ r2) : ∃ r, φ r ∧ C x0 x1 r :=
 mEnt (fd := Tryd.f24) (body := B) (V := W) (res := res) <|
 mCal 6 h (fun _ h => h) fun r1 _ h =>
 mCal 0 h (fun _ h => h) fun r2 _ h =>
 mRet 2 h
end drossref13_within
end Go.Own

namespace Go.Own
open Go.Proofs D
set_option maxRecDepth 100000
set_option maxHeartbeats 4000000
namespace drossref13_Valid
noncomputable def B : Code := (Tryd.f10.body).getD .skip
def W : List Nat := [0, 1, 2, 6, 7, 8, 13, 17, 21, 41]
def res (r : Int) : D × List D := (.lit (.int .i64 r), [])
def C (x0 : Int) (x1 : List api_FD) (x2 : List api_MVD) (r : Int) : Prop := Ret env 10 [.lit (.int .i64 x0), .sl (x1.map enc_api_FD), .sl (x2.map enc_api_MVD)] (res r).1 (res r).2
def L1 (x0 : Int) (x2 : List api_MVD) (y8_L1 : Int) (φ : Int → Prop) : Prop := Pt env 10 W B [1, 1, 1, 0, 1, 0] [(0, .lit (.int .i64 x0)), (2, .sl (x2.map enc_api_MVD)), (8, .lit (.int .i64 y8_L1))] (Lv env 10 Tryd.f10 3 res φ)
theorem L1_step (x0 : Int) (x2 : List api_MVD) (y8_L1 : Int) (φ : Int → Prop) (h :
    (if y8_L1 < (x2.length : Int) then
      ∃ a2, lget x2 y8_L1 = some a2 ∧
      ∃ r4 : Bool, drossref13_within.C x0 a2.Lhs r4 ∧
      (if r4 = true then
        ∃ r5 : Bool, drossref13_within.C x0 a2.Rhs r5 ∧
        (if r5 = true then
          drossref13_Valid.L1 x0 x2 ((IntKind.wrap .i64 (y8_L1 + 1))) φ
        else
          φ 1)
      else
        φ 1)
    else
      φ 0)) : L1 x0 x2 y8_L1 φ :=
 mIn <|
 mLen 4 enc_api_MVD x2 <|
 mAsk 0 h dT dF (fun h =>
 mIx 7 enc_api_MVD h fun a2 h3 h =>
 mCalB 2 h (fun _ h => h) (fun _ h =>
 mIxf 5 enc_api_MVD h3 <|
 mCalB 2 h (fun _ h => h) (fun _ h =>
 mFin 10 h) fun _ h =>
 mRet 7 h) fun _ h =>
 mRet 16 h) fun h =>
 mRet 6 h
theorem enter (x0 : Int) (x1 : List api_FD) (x2 : List api_MVD) (φ : Int → Prop) (h :
    ∃ r1 : Int, drossref09_Valid.C x0 x1 r1 ∧
    (if r1 = 0 then
      (if 64 < (x2.length : Int) then
        φ 3
      else
        drossref13_Valid.L1 x0 x2 0 φ)
    else
      φ r1)) : ∃ r, φ r ∧ C x0 x1 x2 r :=
 mEnt (fd := Tryd.f10) (body := B) (V := W) (res := res) <|
 mCal 6 h (fun _ h => h) fun r1 _ h =>
 mAskN 4 h bne_t bne_f (fun h =>
 mRet 6 h) fun h =>
 mLen 5 enc_api_MVD x2 <|
 mAsk 0 h dT dF (fun h =>
 mRet 5 h) fun h =>
 mFin 6 h
end drossref13_Valid
end Go.Own

namespace Go.Own
open Go.Proofs D
set_option maxRecDepth 100000
set_option maxHeartbeats 4000000
namespace basis_Complement
noncomputable def B : Code := (Tryd.f17.body).getD .skip
def W : List Nat := [0, 1, 3, 4, 10]
def res (r : api_MVD) : D × List D := (.agg [.lit (.int .u32 r.Lhs), .lit (.int .u32 r.Rhs)], [])
def C (x0 : Int) (x1 : api_MVD) (r : api_MVD) : Prop := Ret env 17 [.lit (.int .i64 x0), .agg [.lit (.int .u32 x1.Lhs), .lit (.int .u32 x1.Rhs)]] (res r).1 (res r).2
theorem enter (x0 : Int) (x1 : api_MVD) (φ : api_MVD → Prop) (h :
    (if x0 < 0 then
      φ ((⟨0, 0⟩ : api_MVD))
    else
      (if 16 < x0 then
        φ ((⟨0, 0⟩ : api_MVD))
      else
        0 ≤ x0 ∧
        φ ((⟨x1.Lhs, (bAndNot .u32 (IntKind.wrap .u32 ((shlw .u32 1 x0) - 1)) (bOr .u32 x1.Lhs x1.Rhs))⟩ : api_MVD))))) : ∃ r, φ r ∧ C x0 x1 r :=
 mEnt (fd := Tryd.f17) (body := B) (V := W) (res := res) <|
 mAsk 6 h dT dF (fun h =>
 mRet 10 h) fun h =>
 mAsk 2 h dT dF (fun h =>
 mRet 7 h) fun h =>
 h.elim fun h1 h =>
 mBi 8 (bin_shl (t := 29) (q := .u32) (q' := .i64) (i1 := 1) h1) <|
 mRet 10 h
end basis_Complement
end Go.Own

namespace Go.Own
open Go.Proofs D
set_option maxRecDepth 100000
set_option maxHeartbeats 4000000
namespace drossref13_Complement
noncomputable def B : Code := (Tryd.f18.body).getD .skip
def W : List Nat := [0, 1, 3, 4, 10]
def res (r : api_MVD) : D × List D := (.agg [.lit (.int .u32 r.Lhs), .lit (.int .u32 r.Rhs)], [])
def C (x0 : Int) (x1 : api_MVD) (r : api_MVD) : Prop := Ret env 18 [.lit (.int .i64 x0), .agg [.lit (.int .u32 x1.Lhs), .lit (.int .u32 x1.Rhs)]] (res r).1 (res r).2
theorem enter (x0 : Int) (x1 : api_MVD) (φ : api_MVD → Prop) (h :
    (if x0 < 0 then
      φ ((⟨0, 0⟩ : api_MVD))
    else
      (if 16 < x0 then
        φ ((⟨0, 0⟩ : api_MVD))
      else
        ∃ r1 : Int, drossref02_Full.C x0 r1 ∧
        φ ((⟨x1.Lhs, (bAndNot .u32 r1 (bOr .u32 x1.Lhs x1.Rhs))⟩ : api_MVD))))) : ∃ r, φ r ∧ C x0 x1 r :=
 mEnt (fd := Tryd.f18) (body := B) (V := W) (res := res) <|
 mAsk 6 h dT dF (fun h =>
 mRet 10 h) fun h =>
 mAsk 2 h dT dF (fun h =>
 mRet 7 h) fun h =>
 mLo 8 h (fun _ h => h) fun r1 _ h =>
 mRet 9 h
end drossref13_Complement
end Go.Own

namespace Go.Own
open Go.Proofs D
set_option maxRecDepth 100000
set_option maxHeartbeats 4000000
namespace basis_Trivial
noncomputable def B : Code := (Tryd.f19.body).getD .skip
def W : List Nat := [0, 1, 3, 4, 20]
def res (r : Bool) : D × List D := (.lit (.bool r), [])
def C (x0 : Int) (x1 : api_MVD) (r : Bool) : Prop := Ret env 19 [.lit (.int .i64 x0), .agg [.lit (.int .u32 x1.Lhs), .lit (.int .u32 x1.Rhs)]] (res r).1 (res r).2
theorem enter (x0 : Int) (x1 : api_MVD) (φ : Bool → Prop) (h :
    (if x0 < 0 then
      φ false
    else
      (if 16 < x0 then
        φ false
      else
        0 ≤ x0 ∧
        (if (shrw .u32 (bOr .u32 x1.Lhs x1.Rhs) x0) = 0 then
          (if (bAndNot .u32 x1.Rhs x1.Lhs) = 0 then
            φ true
          else
            0 ≤ x0 ∧
            φ (((bOr .u32 x1.Lhs x1.Rhs) == (IntKind.wrap .u32 ((shlw .u32 1 x0) - 1)))))
        else
          φ false)))) : ∃ r, φ r ∧ C x0 x1 r :=
 mEnt (fd := Tryd.f19) (body := B) (V := W) (res := res) <|
 mAsk 6 h dT dF (fun h =>
 mRet 19 h) fun h =>
 mAsk 2 h dT dF (fun h =>
 mRet 16 h) fun h =>
 h.elim fun h1 h =>
 mBi 8 (bin_shr (t := 29) (q := .u32) (q' := .i64) (i1 := (bOr .u32 x1.Lhs x1.Rhs)) h1) <|
 mAskN 0 h bne_t bne_f (fun h =>
 mRet 6 h) fun h =>
 mAsk 10 h beq_t beq_f (fun h =>
 mRet 13 h) fun h =>
 h.elim fun h2 h =>
 mBi 7 (bin_shl (t := 29) (q := .u32) (q' := .i64) (i1 := 1) h2) <|
 mRet 5 h
end basis_Trivial
end Go.Own

namespace Go.Own
open Go.Proofs D
set_option maxRecDepth 100000
set_option maxHeartbeats 4000000
namespace drossref13_Trivial
noncomputable def B : Code := (Tryd.f20.body).getD .skip
def W : List Nat := [0, 1, 3, 4, 20]
def res (r : Bool) : D × List D := (.lit (.bool r), [])
def C (x0 : Int) (x1 : api_MVD) (r : Bool) : Prop := Ret env 20 [.lit (.int .i64 x0), .agg [.lit (.int .u32 x1.Lhs), .lit (.int .u32 x1.Rhs)]] (res r).1 (res r).2
theorem enter (x0 : Int) (x1 : api_MVD) (φ : Bool → Prop) (h :
    (if x0 < 0 then
      φ false
    else
      (if 16 < x0 then
        φ false
      else
        ∃ r1 : Bool, drossref13_within.C x0 ((bOr .u32 x1.Lhs x1.Rhs)) r1 ∧
        (if r1 = true then
          ∃ r2 : Bool, drossref02_Sub.C x1.Rhs x1.Lhs r2 ∧
          (if r2 = true then
            φ true
          else
            ∃ r3 : Int, drossref02_Full.C x0 r3 ∧
            φ (((bOr .u32 x1.Lhs x1.Rhs) == r3)))
        else
          φ false)))) : ∃ r, φ r ∧ C x0 x1 r :=
 mEnt (fd := Tryd.f20) (body := B) (V := W) (res := res) <|
 mAsk 6 h dT dF (fun h =>
 mRet 19 h) fun h =>
 mAsk 2 h dT dF (fun h =>
 mRet 16 h) fun h =>
 mCalB 8 h (fun _ h => h) (fun _ h =>
 mCalB 10 h (fun _ h => h) (fun _ h =>
 mRet 12 h) fun _ h =>
 mLo 7 h (fun _ h => h) fun r3 _ h =>
 mRet 4 h) fun _ h =>
 mRet 7 h
end drossref13_Trivial
end Go.Own

namespace Go.Own
open Go.Proofs D
set_option maxRecDepth 100000
set_option maxHeartbeats 4000000
namespace drosslaw13_awake
noncomputable def B : Code := (Tryd.f6.body).getD .skip
def W : List Nat := [0, 1, 2, 3, 4, 5, 6, 7, 8, 9]
def res (r : Bool) : D × List D := (.lit (.bool r), [])
def C  (r : Bool) : Prop := Ret env 6 [] (res r).1 (res r).2
end drosslaw13_awake
end Go.Own

namespace Go.Own
set_option maxRecDepth 1000000
theorem drosslaw13_awake.run : callN env 400 6 [] = some (.lit (.bool true), []) := by kernel_rfl
theorem drosslaw13_awake.spec : drosslaw13_awake.C true := Ret.of drosslaw13_awake.run
end Go.Own

namespace Go.Own
open Go.Proofs D
set_option maxRecDepth 100000
set_option maxHeartbeats 4000000
namespace drosslaw13_BasisComplement
noncomputable def B : Code := (Tryd.f5.body).getD .skip
def W : List Nat := [0, 1, 3, 4]
def res (r : Bool) : D × List D := (.lit (.bool r), [])
def C (x0 : Int) (x1 : api_MVD) (r : Bool) : Prop := Ret env 5 [.lit (.int .i64 x0), .agg [.lit (.int .u32 x1.Lhs), .lit (.int .u32 x1.Rhs)]] (res r).1 (res r).2
theorem enter (x0 : Int) (x1 : api_MVD) (φ : Bool → Prop) (h :
    ∃ r1 : Bool, drosslaw13_awake.C  r1 ∧
    (if r1 = true then
      ∃ r2 : api_MVD, basis_Complement.C x0 x1 r2 ∧
      ∃ r3 : api_MVD, drossref13_Complement.C x0 x1 r3 ∧
      (if (and (r2.Lhs == r3.Lhs) (and (r2.Rhs == r3.Rhs) true)) = true then
        ∃ r4 : Bool, basis_Trivial.C x0 x1 r4 ∧
        ∃ r5 : Bool, drossref13_Trivial.C x0 x1 r5 ∧
        φ ((r4 == r5))
      else
        φ false)
    else
      φ false)) : ∃ r, φ r ∧ C x0 x1 r :=
 mEnt (fd := Tryd.f5) (body := B) (V := W) (res := res) <|
 mCalB 5 h (fun _ h => h) (fun _ h =>
 mLo 3 h (fun _ h => h) (hf := (fun _ => loF_flat (flat_agg (flts_cons rfl (flts_cons rfl flts_nil))))) fun r2 _ h =>
 mCal 2 h (fun _ h => h) (hf := (fun _ => clF_flat (flat_agg (flts_cons rfl (flts_cons rfl flts_nil))) rfl)) fun r3 _ h =>
 mBiA 0 h id fls (hd := (bin_aeq (t := 33) (xs := [.lit (.int .u32 r2.Lhs), .lit (.int .u32 r2.Rhs)]) (ys := [.lit (.int .u32 r3.Lhs), .lit (.int .u32 r3.Rhs)]) (l := [(r2.Lhs == r3.Lhs), (r2.Rhs == r3.Rhs)]))) (fun h =>
 mLo 4 h (fun _ h => h) fun r4 _ h =>
 mCal 2 h (fun _ h => h) fun r5 _ h =>
 mRet 4 h) fun h =>
 mRet 12 h) fun _ h =>
 mRet 20 h
end drosslaw13_BasisComplement
end Go.Own
