/- What the functions that the law reaches answer. No conditions. -/
import Derived.Test.YtdlkdimkhmpkkaaDoorBase6
import Derived.Test.YtdlkdimkhmpkkaaDoorOwn18
import Derived.Test.YtdlkdimkhmpkkaaDoorBase2
import Derived.Test.YtdlkdimkhmpkkaaDoorOwn24
set_option linter.all false

namespace Go.Own
open Go.Proofs D
set_option maxRecDepth 100000
set_option maxHeartbeats 4000000
namespace attrset_checked_1
noncomputable def B : Code := (Tryd.f67.body).getD .skip
def W : List Nat := [0, 2]
def res (r : Bool) : D × List D := (.lit (.bool r), [])
def C (x0 : Int) (r : Bool) : Prop := Ret env 67 [.lit (.int .u8 x0)] (res r).1 (res r).2
theorem enter (x0 : Int) (φ : Bool → Prop) (h :
    (if x0 ≤ 32 then
      φ true
    else
      φ ((x0 == 127)))) : ∃ r, φ r ∧ C x0 r :=
 mEnt (fd := Tryd.f67) (body := B) (V := W) (res := res) <|
 mAsk 5 h dT dF (fun h =>
 mRet 6 h) fun h =>
 mRet 6 h
end attrset_checked_1
end Go.Own

namespace Go.Own
open Go.Proofs D
set_option maxRecDepth 100000
set_option maxHeartbeats 4000000
namespace slices_IndexFunc_sbyte_byte_attrset_checked_1
noncomputable def B : Code := (Tryd.f80.body).getD .skip
def W : List Nat := [0, 1, 4, 5, 7, 8, 9, 16]
def res (r : Int) : D × List D := (.lit (.int .i64 r), [])
def C (x0 : List Int) (r : Int) : Prop := Ret env 80 [.sl (x0.map (eI .u8)), .fn 67 []] (res r).1 (res r).2
def L1 (x0 : List Int) (y8_L1 : Int) (φ : Int → Prop) : Prop := Pt env 80 W B [1, 0, 1, 0] [(0, .sl (x0.map (eI .u8))), (1, .fn 67 []), (7, .lit (.int .i64 ((x0.length : Int)))), (8, .lit (.int .i64 y8_L1))] (Lv env 80 Tryd.f80 2 res φ)
theorem L1_step (x0 : List Int) (y8_L1 : Int) (φ : Int → Prop) (h :
    (if y8_L1 < (x0.length : Int) then
      ∃ a1, lget x0 y8_L1 = some a1 ∧
      ∃ r3 : Bool, attrset_checked_1.C a1 r3 ∧
      (if r3 = true then
        φ y8_L1
      else
        slices_IndexFunc_sbyte_byte_attrset_checked_1.L1 x0 ((IntKind.wrap .i64 (y8_L1 + 1))) φ)
    else
      φ ((-1)))) : L1 x0 y8_L1 φ :=
 mIn <|
 mAsk 2 h dT dF (fun h =>
 mIx 11 (eI .u8) h fun a1 h2 h =>
 mCalB 1 h (fun _ h => h) (fun _ h =>
 mRet 6 h) fun _ h =>
 mFin 7 h) fun h =>
 mRet 6 h
theorem enter (x0 : List Int) (φ : Int → Prop) (h :
    slices_IndexFunc_sbyte_byte_attrset_checked_1.L1 x0 0 φ) : ∃ r, φ r ∧ C x0 r :=
 mEnt (fd := Tryd.f80) (body := B) (V := W) (res := res) <|
 mLen 5 (eI .u8) x0 <|
 mFin 2 h
end slices_IndexFunc_sbyte_byte_attrset_checked_1
end Go.Own

namespace Go.Own
open Go.Proofs D
set_option maxRecDepth 100000
set_option maxHeartbeats 4000000
namespace slices_ContainsFunc_sbyte_byte_attrset_checked_1
noncomputable def B : Code := (Tryd.f66.body).getD .skip
def W : List Nat := [0, 1, 4]
def res (r : Bool) : D × List D := (.lit (.bool r), [])
def C (x0 : List Int) (r : Bool) : Prop := Ret env 66 [.sl (x0.map (eI .u8)), .fn 67 []] (res r).1 (res r).2
theorem enter (x0 : List Int) (φ : Bool → Prop) (h :
    ∃ r1 : Int, slices_IndexFunc_sbyte_byte_attrset_checked_1.C x0 r1 ∧
    φ ((decide (0 ≤ r1)))) : ∃ r, φ r ∧ C x0 r :=
 mEnt (fd := Tryd.f66) (body := B) (V := W) (res := res) <|
 mCal 6 h (fun _ h => h) fun r1 _ h =>
 mRet 3 h
end slices_ContainsFunc_sbyte_byte_attrset_checked_1
end Go.Own

namespace Go.Own
open Go.Proofs D
set_option maxRecDepth 100000
set_option maxHeartbeats 4000000
namespace slices_Index_sstring_string
noncomputable def B : Code := (Tryd.f52.body).getD .skip
def W : List Nat := [0, 1, 4, 5, 7, 8, 9, 16]
def res (r : Int) : D × List D := (.lit (.int .i64 r), [])
def C (x0 : List ByteArray) (x1 : ByteArray) (r : Int) : Prop := Ret env 52 [.sl (x0.map eS), .lit (.string x1)] (res r).1 (res r).2
def L1 (x0 : List ByteArray) (x1 : ByteArray) (y8_L1 : Int) (φ : Int → Prop) : Prop := Pt env 52 W B [1, 0, 1, 0] [(0, .sl (x0.map eS)), (1, .lit (.string x1)), (7, .lit (.int .i64 ((x0.length : Int)))), (8, .lit (.int .i64 y8_L1))] (Lv env 52 Tryd.f52 2 res φ)
theorem L1_step (x0 : List ByteArray) (x1 : ByteArray) (y8_L1 : Int) (φ : Int → Prop) (h :
    (if y8_L1 < (x0.length : Int) then
      ∃ a1, lget x0 y8_L1 = some a1 ∧
      (if x1.toList = a1.toList then
        φ y8_L1
      else
        slices_Index_sstring_string.L1 x0 x1 ((IntKind.wrap .i64 (y8_L1 + 1))) φ)
    else
      φ ((-1)))) : L1 x0 x1 y8_L1 φ :=
 mIn <|
 mAsk 2 h dT dF (fun h =>
 mIx 11 eS h fun a1 h2 h =>
 mAsk 1 h seq_t seq_f (fun h =>
 mRet 6 h) fun h =>
 mFin 7 h) fun h =>
 mRet 6 h
theorem enter (x0 : List ByteArray) (x1 : ByteArray) (φ : Int → Prop) (h :
    slices_Index_sstring_string.L1 x0 x1 0 φ) : ∃ r, φ r ∧ C x0 x1 r :=
 mEnt (fd := Tryd.f52) (body := B) (V := W) (res := res) <|
 mLen 5 eS x0 <|
 mFin 2 h
end slices_Index_sstring_string
end Go.Own

namespace Go.Own
open Go.Proofs D
set_option maxRecDepth 100000
set_option maxHeartbeats 4000000
namespace slices_Contains_sstring_string
noncomputable def B : Code := (Tryd.f51.body).getD .skip
def W : List Nat := [0, 1, 4]
def res (r : Bool) : D × List D := (.lit (.bool r), [])
def C (x0 : List ByteArray) (x1 : ByteArray) (r : Bool) : Prop := Ret env 51 [.sl (x0.map eS), .lit (.string x1)] (res r).1 (res r).2
theorem enter (x0 : List ByteArray) (x1 : ByteArray) (φ : Bool → Prop) (h :
    ∃ r1 : Int, slices_Index_sstring_string.C x0 x1 r1 ∧
    φ ((decide (0 ≤ r1)))) : ∃ r, φ r ∧ C x0 x1 r :=
 mEnt (fd := Tryd.f51) (body := B) (V := W) (res := res) <|
 mCal 6 h (fun _ h => h) fun r1 _ h =>
 mRet 3 h
end slices_Contains_sstring_string
end Go.Own

namespace Go.Own
open Go.Proofs D
set_option maxRecDepth 100000
set_option maxHeartbeats 4000000
namespace attrset_checked
noncomputable def B : Code := (Tryd.f48.body).getD .skip
def W : List Nat := [0, 2, 3, 4, 7, 8, 9, 10, 11, 28]
def res (r : Int) : D × List D := (.lit (.int .i64 r), [])
def C (x0 : List ByteArray) (r : Int) : Prop := Ret env 48 [.sl (x0.map eS)] (res r).1 (res r).2
def L1 (x0 : List ByteArray) (y10_L1 : Int) (φ : Int → Prop) : Prop := Pt env 48 W B [1, 1, 0, 1, 0] [(0, .sl (x0.map eS)), (8, .sl (x0.map eS)), (9, .lit (.int .i64 ((x0.length : Int)))), (10, .lit (.int .i64 y10_L1))] (Lv env 48 Tryd.f48 1 res φ)
theorem L1_step (x0 : List ByteArray) (y10_L1 : Int) (φ : Int → Prop) (h :
    (if y10_L1 < (x0.length : Int) then
      ∃ a1, lget x0 y10_L1 = some a1 ∧
      (if a1.toList = ((⟨#[]⟩ : ByteArray)).toList then
        φ 1
      else
        a1.size ≤ 9223372036854775807 ∧
        ∃ r4 : Bool, slices_ContainsFunc_sbyte_byte_attrset_checked_1.C ((bytesI a1)) r4 ∧
        (if r4 = true then
          φ 1
        else
          0 ≤ y10_L1 ∧
          (0 ≤ y10_L1.toNat ∧ y10_L1.toNat ≤ x0.length) ∧
          ∃ r7 : Bool, slices_Contains_sstring_string.C ((List.take (y10_L1.toNat - 0) x0)) a1 r7 ∧
          (if r7 = true then
            φ 1
          else
            attrset_checked.L1 x0 ((IntKind.wrap .i64 (y10_L1 + 1))) φ)))
    else
      φ 0)) : L1 x0 y10_L1 φ :=
 mIn <|
 mAsk 2 h dT dF (fun h =>
 mIx 5 eS h fun a1 h2 h =>
 mAsk 6 h seq_t seq_f (fun h =>
 mRet 17 h) fun h =>
 h.elim fun h3 h =>
 mVl 2 (val_tobytes (s := 9) (t := 77) (et := 5) (x := (.tmp 18)) (b := a1) (by kernel_rfl) (by kernel_rfl) (by kernel_rfl) (by kernel_rfl) (by kernel_rfl) h3) <|
 mCalB 0 h (fun _ h => h) (fun _ h =>
 mRet 13 h) fun _ h =>
 h.elim fun h5 h =>
 h.elim fun h6 h =>
 mVl 4 (val_slice_sl (t := 35) (x := (.tmp 23)) (lo := none) (hi := (some (.tmp 24))) (lo' := none) (hi' := some (y10_L1).toNat) (e := eS) (l := x0) (et := 9) (k := 1) (by kernel_rfl) (by kernel_rfl) optNat_none (optNat_some (i := y10_L1) (q := .i64) (by kernel_rfl) h5) (by kernel_rfl) (by kernel_rfl) (fun _ => rfl) (by kernel_rfl) h6.1 h6.2) <|
 mCalB 1 h (fun _ h => h) (fun _ h =>
 mRet 6 h) fun _ h =>
 mFin 8 h) fun h =>
 mRet 6 h
theorem enter (x0 : List ByteArray) (φ : Int → Prop) (h :
    (if 16 < (x0.length : Int) then
      φ 3
    else
      attrset_checked.L1 x0 0 φ)) : ∃ r, φ r ∧ C x0 r :=
 mEnt (fd := Tryd.f48) (body := B) (V := W) (res := res) <|
 mLen 5 eS x0 <|
 mAsk 0 h dT dF (fun h =>
 mRet 5 h) fun h =>
 mLen 5 eS x0 <|
 mFin 2 h
end attrset_checked
end Go.Own

namespace Go.Own
open Go.Proofs D
set_option maxRecDepth 100000
set_option maxHeartbeats 4000000
namespace drossref02_ValidNames
noncomputable def B : Code := (Tryd.f64.body).getD .skip
def W : List Nat := [0, 2, 3, 4, 5, 8, 12, 19, 26, 44, 47, 58]
def res (r : Int) : D × List D := (.lit (.int .i64 r), [])
def C (x0 : List ByteArray) (r : Int) : Prop := Ret env 64 [.sl (x0.map eS)] (res r).1 (res r).2
def L1 (x0 : List ByteArray) (y3_L1 : Int) (φ : Int → Prop) : Prop := Pt env 64 W B [1, 1, 0, 1, 0] [(0, .sl (x0.map eS)), (3, .lit (.int .i64 y3_L1))] (Lv env 64 Tryd.f64 1 res φ)
def L2 (x0 : List ByteArray) (y3_L2 : Int) (y4_L2 : Int) (φ : Int → Prop) : Prop := Pt env 64 W B [1, 1, 0, 1, 0, 0, 1, 0, 0, 1, 0, 1, 0] [(0, .sl (x0.map eS)), (3, .lit (.int .i64 y3_L2)), (4, .lit (.int .i64 y4_L2))] (Lv env 64 Tryd.f64 1 res φ)
def L3 (x0 : List ByteArray) (y3_L3 : Int) (y5_L3 : Int) (φ : Int → Prop) : Prop := Pt env 64 W B [1, 1, 0, 1, 0, 0, 1, 0, 0, 1, 1, 1, 0] [(0, .sl (x0.map eS)), (3, .lit (.int .i64 y3_L3)), (5, .lit (.int .i64 y5_L3))] (Lv env 64 Tryd.f64 1 res φ)
theorem L1_step (x0 : List ByteArray) (y3_L1 : Int) (φ : Int → Prop) (h :
    (if y3_L1 < (x0.length : Int) then
      ∃ a1, lget x0 y3_L1 = some a1 ∧
      (if a1.toList = ((⟨#[]⟩ : ByteArray)).toList then
        φ 1
      else
        drossref02_ValidNames.L2 x0 y3_L1 0 φ)
    else
      φ 0)) : L1 x0 y3_L1 φ :=
 mIn <|
 mLen 4 eS x0 <|
 mAsk 0 h dT dF (fun h =>
 mIx 6 eS h fun a1 h2 h =>
 mAsk 1 h seq_t seq_f (fun h =>
 mRet 5 h) fun h =>
 mFin 6 h) fun h =>
 mRet 6 h
theorem L2_step (x0 : List ByteArray) (y3_L2 : Int) (y4_L2 : Int) (φ : Int → Prop) (h :
    ∃ a3, lget x0 y3_L2 = some a3 ∧
    (if y4_L2 < (bsize a3) then
      ∃ b5, ((0 : Int) ≤ y4_L2 ∧ a3[(y4_L2).toNat]? = some b5) ∧
      (if (u8i b5) ≤ 32 then
        φ 1
      else
        ∃ b8, ((0 : Int) ≤ y4_L2 ∧ a3[(y4_L2).toNat]? = some b8) ∧
        (if (u8i b8) = 127 then
          φ 1
        else
          drossref02_ValidNames.L2 x0 y3_L2 ((IntKind.wrap .i64 (y4_L2 + 1))) φ))
    else
      drossref02_ValidNames.L3 x0 y3_L2 0 φ)) : L2 x0 y3_L2 y4_L2 φ :=
 mIn <|
 mIx 5 eS h fun a3 h4 h =>
 mAsk 2 h dT dF (fun h =>
 mIxf 6 eS h4 <|
 mSt 2 h fun b5 h =>
 mAsk 0 h dT dF (fun h =>
 mRet 14 h) fun h =>
 mIxf 3 eS h4 <|
 mSt 2 h fun b8 h =>
 mAsk 0 h beq_t beq_f (fun h =>
 mRet 6 h) fun h =>
 mFin 9 h) fun h =>
 mFin 6 h
theorem L3_step (x0 : List ByteArray) (y3_L3 : Int) (y5_L3 : Int) (φ : Int → Prop) (h :
    (if y5_L3 < y3_L3 then
      ∃ a11, lget x0 y5_L3 = some a11 ∧
      ∃ a13, lget x0 y3_L3 = some a13 ∧
      (if a11.toList = a13.toList then
        φ 1
      else
        drossref02_ValidNames.L3 x0 y3_L3 ((IntKind.wrap .i64 (y5_L3 + 1))) φ)
    else
      drossref02_ValidNames.L1 x0 ((IntKind.wrap .i64 (y3_L3 + 1))) φ)) : L3 x0 y3_L3 y5_L3 φ :=
 mIn <|
 mAsk 4 h dT dF (fun h =>
 mIx 6 eS h fun a11 h12 h =>
 mIx 3 eS h fun a13 h14 h =>
 mAsk 1 h seq_t seq_f (fun h =>
 mRet 5 h) fun h =>
 mFin 8 h) fun h =>
 mFin 8 h
theorem enter (x0 : List ByteArray) (φ : Int → Prop) (h :
    (if 16 < (x0.length : Int) then
      φ 3
    else
      drossref02_ValidNames.L1 x0 0 φ)) : ∃ r, φ r ∧ C x0 r :=
 mEnt (fd := Tryd.f64) (body := B) (V := W) (res := res) <|
 mLen 5 eS x0 <|
 mAsk 0 h dT dF (fun h =>
 mRet 5 h) fun h =>
 mFin 6 h
end drossref02_ValidNames
end Go.Own

namespace Go.Own
open Go.Proofs D
set_option maxRecDepth 100000
set_option maxHeartbeats 4000000
namespace drossref02_Few
noncomputable def B : Code := (Tryd.f21.body).getD .skip
def W : List Nat := [0, 1, 4, 5, 6, 12]
def res (r : Bool) : D × List D := (.lit (.bool r), [])
def C (x0 : ByteArray) (x1 : List ByteArray) (r : Bool) : Prop := Ret env 21 [.lit (.string x0), .sl (x1.map eS)] (res r).1 (res r).2
def L1 (x1 : List ByteArray) (y5_L1 : Int) (y6_L1 : Int) (φ : Bool → Prop) : Prop := Pt env 21 W B [1, 1, 0, 1, 0] [(1, .sl (x1.map eS)), (5, .lit (.int .i64 y5_L1)), (6, .lit (.int .i64 y6_L1))] (Lv env 21 Tryd.f21 2 res φ)
theorem L1_step (x1 : List ByteArray) (y5_L1 : Int) (y6_L1 : Int) (φ : Bool → Prop) (h :
    (if y6_L1 < (x1.length : Int) then
      ∃ a1, lget x1 y6_L1 = some a1 ∧
      drossref02_Few.L1 x1 ((IntKind.wrap .i64 (y5_L1 + (bsize a1)))) ((IntKind.wrap .i64 (y6_L1 + 1))) φ
    else
      (if y5_L1 ≤ 400 then
        φ ((decide ((x1.length : Int) ≤ 40)))
      else
        φ false))) : L1 x1 y5_L1 y6_L1 φ :=
 mIn <|
 mLen 4 eS x1 <|
 mAsk 0 h dT dF (fun h =>
 mIx 7 eS h fun a1 h2 h =>
 mFin 10 h) fun h =>
 mAsk 5 h dT dF (fun h =>
 mLen 2 eS x1 <|
 mRet 4 h) fun h =>
 mRet 7 h
theorem enter (x0 : ByteArray) (x1 : List ByteArray) (φ : Bool → Prop) (h :
    drossref02_Few.L1 x1 ((bsize x0)) 0 φ) : ∃ r, φ r ∧ C x0 x1 r :=
 mEnt (fd := Tryd.f21) (body := B) (V := W) (res := res) <|
 mFin 11 h
end drossref02_Few
end Go.Own

namespace Go.Own
open Go.Proofs D
set_option maxRecDepth 100000
set_option maxHeartbeats 4000000
namespace internal_stringslite_IndexByte
noncomputable def B : Code := (Tryd.f110.body).getD .skip
def W : List Nat := [0, 1, 4]
def res (r : Int) : D × List D := (.lit (.int .i64 r), [])
def C (x0 : ByteArray) (x1 : Int) (r : Int) : Prop := Ret env 110 [.lit (.string x0), .lit (.int .u8 x1)] (res r).1 (res r).2
theorem enter (x0 : ByteArray) (x1 : Int) (φ : Int → Prop) (h :
    φ ((byteIx x0 x1))) : ∃ r, φ r ∧ C x0 x1 r :=
 mEnt (fd := Tryd.f110) (body := B) (V := W) (res := res) <|
 mCalP 6 (show Ret env 115 [.lit (.string x0), .lit (.int .u8 x1)] (.lit (.int .i64 ((byteIx x0 x1)))) [] from ret_indexByte (by kernel_rfl)) <|
 mRet 2 h
end internal_stringslite_IndexByte
end Go.Own

namespace Go.Own
open Go.Proofs D
set_option maxRecDepth 100000
set_option maxHeartbeats 4000000
namespace internal_stringslite_Index
noncomputable def B : Code := (Tryd.f103.body).getD .skip
def W : List Nat := [0, 1, 4, 5, 6, 7, 8, 9, 10, 11, 12, 13, 16, 24, 31, 36, 59, 64, 73, 93, 107, 114, 132, 139]
def res (r : Int) : D × List D := (.lit (.int .i64 r), [])
def C (x0 : ByteArray) (x1 : ByteArray) (r : Int) : Prop := Ret env 103 [.lit (.string x0), .lit (.string x1)] (res r).1 (res r).2
theorem enter (x0 : ByteArray) (x1 : ByteArray) (φ : Int → Prop) (h :
    (if (bsize x1) = 0 then
      φ 0
    else
      (if x1.toList = x0.toList then
        φ 0
      else
        (if (bsize x1) = 1 then
          ∃ b1, ((0 : Int) ≤ 0 ∧ x1[((0 : Int)).toNat]? = some b1) ∧
          ∃ r4 : Int, internal_stringslite_IndexByte.C x0 ((u8i b1)) r4 ∧
          φ r4
        else
          (if (bsize x0) ≤ (bsize x1) then
            φ ((-1))
          else
            False))))) : ∃ r, φ r ∧ C x0 x1 r :=
 mEnt (fd := Tryd.f103) (body := B) (V := W) (res := res) <|
 mAsk 10 h beq_t beq_f (fun h =>
 mRet 11 h) fun h =>
 mCon 7 h seq_t seq_f (fun h =>
 mRet 3 h) fun h =>
 mCon 5 h beq_t beq_f (fun h =>
 mSt 3 h fun b1 h =>
 mCal 0 h (fun _ h => h) fun r4 _ h =>
 mRet 2 h) fun h =>
 mCon 7 h dT dF (fun h =>
 mRet 3 h) fun h =>
 h.elim
end internal_stringslite_Index
end Go.Own

namespace Go.Own
open Go.Proofs D
set_option maxRecDepth 100000
set_option maxHeartbeats 4000000
namespace strings_Index
noncomputable def B : Code := (Tryd.f85.body).getD .skip
def W : List Nat := [0, 1, 4]
def res (r : Int) : D × List D := (.lit (.int .i64 r), [])
def C (x0 : ByteArray) (x1 : ByteArray) (r : Int) : Prop := Ret env 85 [.lit (.string x0), .lit (.string x1)] (res r).1 (res r).2
theorem enter (x0 : ByteArray) (x1 : ByteArray) (φ : Int → Prop) (h :
    ∃ r1 : Int, internal_stringslite_Index.C x0 x1 r1 ∧
    φ r1) : ∃ r, φ r ∧ C x0 x1 r :=
 mEnt (fd := Tryd.f85) (body := B) (V := W) (res := res) <|
 mCal 6 h (fun _ h => h) fun r1 _ h =>
 mRet 2 h
end strings_Index
end Go.Own

namespace Go.Own
open Go.Proofs D
set_option maxRecDepth 100000
set_option maxHeartbeats 4000000
namespace strings_Count
noncomputable def B : Code := (Tryd.f84.body).getD .skip
def W : List Nat := [0, 1, 4, 5, 6, 9, 15, 24]
def res (r : Int) : D × List D := (.lit (.int .i64 r), [])
def C (x0 : ByteArray) (x1 : ByteArray) (r : Int) : Prop := Ret env 84 [.lit (.string x0), .lit (.string x1)] (res r).1 (res r).2
def L1 (x0 : ByteArray) (x1 : ByteArray) (y5_L1 : Int) (φ : Int → Prop) : Prop := Pt env 84 W B [1, 1, 1, 1, 0] [(0, .lit (.string x0)), (1, .lit (.string x1)), (5, .lit (.int .i64 y5_L1))] (Lv env 84 Tryd.f84 2 res φ)
theorem L1_step (x0 : ByteArray) (x1 : ByteArray) (y5_L1 : Int) (φ : Int → Prop) (h :
    ∃ r4 : Int, strings_Index.C x0 x1 r4 ∧
    (if r4 = (-1) then
      φ y5_L1
    else
      0 ≤ (IntKind.wrap .i64 (r4 + (bsize x1))) ∧
      (((IntKind.wrap .i64 (r4 + (bsize x1)))).toNat ≤ x0.size ∧ x0.size ≤ x0.size) ∧
      strings_Count.L1 ((bsub x0 ((IntKind.wrap .i64 (r4 + (bsize x1)))).toNat x0.size)) x1 ((IntKind.wrap .i64 (y5_L1 + 1))) φ)) : L1 x0 x1 y5_L1 φ :=
 mIn <|
 mCal 4 h (fun _ h => h) fun r4 _ h =>
 mAsk 4 h beq_t beq_f (fun h =>
 mRet 6 h) fun h =>
 h.elim fun h5 h =>
 h.elim fun h6 h =>
 mVl 14 (val_strsub (t := 9) (x := (.tmp 28)) (lo := (some (.tmp 32))) (hi := none) (lo' := some ((IntKind.wrap .i64 (r4 + (bsize x1)))).toNat) (hi' := none) (s1 := x0) (by kernel_rfl) (by kernel_rfl) (optNat_some (i := (IntKind.wrap .i64 (r4 + (bsize x1)))) (q := .i64) (by kernel_rfl) h5) optNat_none (by kernel_rfl) h6.1 h6.2) <|
 mFin 2 h
theorem enter (x0 : ByteArray) (x1 : ByteArray) (φ : Int → Prop) (h :
    (if (bsize x1) = 0 then
      False
    else
      (if (bsize x1) = 1 then
        ∃ b1, ((0 : Int) ≤ 0 ∧ x1[((0 : Int)).toNat]? = some b1) ∧
        φ ((byteCnt x0 (u8i b1)))
      else
        strings_Count.L1 x0 x1 0 φ))) : ∃ r, φ r ∧ C x0 x1 r :=
 mEnt (fd := Tryd.f84) (body := B) (V := W) (res := res) <|
 mAsk 6 h beq_t beq_f (fun h =>
 h.elim) fun h =>
 mAsk 6 h beq_t beq_f (fun h =>
 mSt 5 h fun b1 h =>
 mCalP 0 (show Ret env 102 [.lit (.string x0), .lit (.int .u8 ((u8i b1)))] (.lit (.int .i64 ((byteCnt x0 (u8i b1))))) [] from ret_countByte (by kernel_rfl)) <|
 mRet 2 h) fun h =>
 mFin 6 h
end strings_Count
end Go.Own

namespace Go.Own
open Go.Proofs D
set_option maxRecDepth 100000
set_option maxHeartbeats 4000000
namespace strings_genSplit
noncomputable def B : Code := (Tryd.f71.body).getD .skip
def W : List Nat := [0, 1, 2, 3, 8, 9, 10, 11, 13, 15, 20, 36, 41]
def res (r : (List ByteArray × Bool)) : D × List D := ((sown (r.1.map eS) r.2), [])
def C (x0 : ByteArray) (x1 : ByteArray) (x2 : Int) (x3 : Int) (r : (List ByteArray × Bool)) : Prop := Ret env 71 [.lit (.string x0), .lit (.string x1), .lit (.int .i64 x2), .lit (.int .i64 x3)] (res r).1 (res r).2
def L2 (x0 : ByteArray) (x1 : ByteArray) (x2 : Int) (y3_L2 : Int) (φ : (List ByteArray × Bool) → Prop) : Prop := Pt env 71 W B [1, 1, 1, 1, 0] [(0, .lit (.string x0)), (1, .lit (.string x1)), (2, .lit (.int .i64 x2)), (3, .lit (.int .i64 y3_L2))] (Lv env 71 Tryd.f71 4 res φ)
def L1 (x0 : ByteArray) (x1 : ByteArray) (x2 : Int) (y3_L1 : Int) (y9_L1 : List ByteArray) (y10_L1 : Int) (φ : (List ByteArray × Bool) → Prop) : Prop := Pt env 71 W B [1, 1, 1, 1, 1, 1, 1, 1, 0, 0] [(0, .lit (.string x0)), (1, .lit (.string x1)), (2, .lit (.int .i64 x2)), (3, .lit (.int .i64 y3_L1)), (9, .own (y9_L1.map eS)), (10, .lit (.int .i64 y10_L1))] (Lv env 71 Tryd.f71 4 res φ)
def L3 (x0 : ByteArray) (y9_L1 : List ByteArray) (y10_L1 : Int) (φ : (List ByteArray × Bool) → Prop) : Prop := Pt env 71 W B [1, 1, 1, 1, 1, 1, 1, 1, 1, 0] [(0, .lit (.string x0)), (9, .own (y9_L1.map eS)), (10, .lit (.int .i64 y10_L1))] (Lv env 71 Tryd.f71 4 res φ)
theorem L2_step (x0 : ByteArray) (x1 : ByteArray) (x2 : Int) (y3_L2 : Int) (φ : (List ByteArray × Bool) → Prop) (h :
    (0 ≤ (imin y3_L2 (IntKind.wrap .i64 ((bsize x0) + 1))) ∧ (imin y3_L2 (IntKind.wrap .i64 ((bsize x0) + 1))) * 16 ≤ 281474976710656) ∧
    strings_genSplit.L1 x0 x1 x2 ((IntKind.wrap .i64 ((imin y3_L2 (IntKind.wrap .i64 ((bsize x0) + 1))) - 1))) ((List.replicate ((imin y3_L2 (IntKind.wrap .i64 ((bsize x0) + 1)))).toNat (⟨#[]⟩ : ByteArray))) 0 φ) : L2 x0 x1 x2 y3_L2 φ :=
 mIn <|
 h.elim fun h2 h =>
 mVl 10 (val_make (t := 35) (x := (.tmp 30)) (y := (.tmp 30)) (q := .i64) (i := (imin y3_L2 (IntKind.wrap .i64 ((bsize x0) + 1)))) (et := 9) (z := .lit (.string ((⟨#[]⟩ : ByteArray)))) (e := eS) (a := (⟨#[]⟩ : ByteArray)) (k := 16) (by kernel_rfl) (by kernel_rfl) (by kernel_rfl) (by kernel_rfl) (by kernel_rfl) (by kernel_rfl) (by kernel_rfl) (by kernel_rfl) (by kernel_rfl) (by kernel_rfl) h2.1 h2.2) <|
 mFin 10 h
theorem L1_step (x0 : ByteArray) (x1 : ByteArray) (x2 : Int) (y3_L1 : Int) (y9_L1 : List ByteArray) (y10_L1 : Int) (φ : (List ByteArray × Bool) → Prop) (h :
    (if y10_L1 < y3_L1 then
      ∃ r3 : Int, strings_Index.C x0 x1 r3 ∧
      (if r3 < 0 then
        strings_genSplit.L3 x0 y9_L1 y10_L1 φ
      else
        0 ≤ (IntKind.wrap .i64 (r3 + x2)) ∧
        (0 ≤ ((IntKind.wrap .i64 (r3 + x2))).toNat ∧ ((IntKind.wrap .i64 (r3 + x2))).toNat ≤ x0.size) ∧
        ∃ a6, lget y9_L1 y10_L1 = some a6 ∧
        0 ≤ (IntKind.wrap .i64 (r3 + (bsize x1))) ∧
        (((IntKind.wrap .i64 (r3 + (bsize x1)))).toNat ≤ x0.size ∧ x0.size ≤ x0.size) ∧
        strings_genSplit.L1 ((bsub x0 ((IntKind.wrap .i64 (r3 + (bsize x1)))).toNat x0.size)) x1 x2 y3_L1 ((lset y9_L1 y10_L1 (bsub x0 0 ((IntKind.wrap .i64 (r3 + x2))).toNat))) ((IntKind.wrap .i64 (y10_L1 + 1))) φ)
    else
      strings_genSplit.L3 x0 y9_L1 y10_L1 φ)) : L1 x0 x1 x2 y3_L1 y9_L1 y10_L1 φ :=
 mIn <|
 mAsk 4 h dT dF (fun h =>
 mCal 6 h (fun _ h => h) fun r3 _ h =>
 mAsk 4 h dT dF (fun h =>
 mFin 3 h) fun h =>
 h.elim fun h4 h =>
 h.elim fun h5 h =>
 mVl 10 (val_strsub (t := 9) (x := (.tmp 44)) (lo := none) (hi := (some (.tmp 47))) (lo' := none) (hi' := some ((IntKind.wrap .i64 (r3 + x2))).toNat) (s1 := x0) (by kernel_rfl) (by kernel_rfl) optNat_none (optNat_some (i := (IntKind.wrap .i64 (r3 + x2))) (q := .i64) (by kernel_rfl) h4) (by kernel_rfl) h5.1 h5.2) <|
 mIy 0 eS h fun a6 h7 h =>
 mSto 0 eS ((bsub x0 0 ((IntKind.wrap .i64 (r3 + x2))).toNat)) h7 <|
 h.elim fun h8 h =>
 h.elim fun h9 h =>
 mVl 7 (val_strsub (t := 9) (x := (.tmp 50)) (lo := (some (.tmp 54))) (hi := none) (lo' := some ((IntKind.wrap .i64 (r3 + (bsize x1)))).toNat) (hi' := none) (s1 := x0) (by kernel_rfl) (by kernel_rfl) (optNat_some (i := (IntKind.wrap .i64 (r3 + (bsize x1)))) (q := .i64) (by kernel_rfl) h8) optNat_none (by kernel_rfl) h9.1 h9.2) <|
 mFin 7 h) fun h =>
 mFin 3 h
theorem L3_step (x0 : ByteArray) (y9_L1 : List ByteArray) (y10_L1 : Int) (φ : (List ByteArray × Bool) → Prop) (h :
    ∃ a10, lget y9_L1 y10_L1 = some a10 ∧
    0 ≤ (IntKind.wrap .i64 (y10_L1 + 1)) ∧
    (0 ≤ ((IntKind.wrap .i64 (y10_L1 + 1))).toNat ∧ ((IntKind.wrap .i64 (y10_L1 + 1))).toNat ≤ ((lset y9_L1 y10_L1 x0)).length) ∧
    (((IntKind.wrap .i64 (y10_L1 + 1))).toNat - 0) ≤ ((lset y9_L1 y10_L1 x0)).length ∧
    φ (⟨(List.take (((IntKind.wrap .i64 (y10_L1 + 1))).toNat - 0) (lset y9_L1 y10_L1 x0)), (!(((List.take (((IntKind.wrap .i64 (y10_L1 + 1))).toNat - 0) (lset y9_L1 y10_L1 x0))).isEmpty))⟩)) : L3 x0 y9_L1 y10_L1 φ :=
 mIn <|
 mIy 4 eS h fun a10 h11 h =>
 mSto 0 eS x0 h11 <|
 h.elim fun h12 h =>
 h.elim fun h13 h =>
 mVl 5 (val_slice_ow (s := 9) (ps := []) (t := 35) (x := (.tmp 62)) (lo := none) (hi := (some (.tmp 64))) (lo' := none) (hi' := some ((IntKind.wrap .i64 (y10_L1 + 1))).toNat) (e := eS) (l := (lset y9_L1 y10_L1 x0)) (et := 9) (k := 1) (by kernel_rfl) (by kernel_rfl) (elemsOf_ow (by kernel_rfl)) optNat_none (optNat_some (i := (IntKind.wrap .i64 (y10_L1 + 1))) (q := .i64) (by kernel_rfl) h12) (by kernel_rfl) (by kernel_rfl) (fun _ => rfl) (by kernel_rfl) h13.1 h13.2) <|
 h.elim fun h15 h =>
 mRet 2 h (hl := (leave_sub (t := 8) (s := 9) (n := (((IntKind.wrap .i64 (y10_L1 + 1))).toNat - 0)) (m := (List.take (((IntKind.wrap .i64 (y10_L1 + 1))).toNat - 0) (lset y9_L1 y10_L1 x0))) (e := eS) (es := ((lset y9_L1 y10_L1 x0)).map eS) (by kernel_rfl) (by kernel_rfl) (by kernel_rfl) (by rw [List.length_map]; exact h15) List.map_take.symm (by kernel_rfl)))
theorem enter (x0 : ByteArray) (x1 : ByteArray) (x2 : Int) (x3 : Int) (φ : (List ByteArray × Bool) → Prop) (h :
    (if x3 = 0 then
      φ (⟨[], true⟩)
    else
      (if x1.toList = ((⟨#[]⟩ : ByteArray)).toList then
        False
      else
        (if x3 < 0 then
          ∃ r1 : Int, strings_Count.C x0 x1 r1 ∧
          strings_genSplit.L2 x0 x1 x2 ((IntKind.wrap .i64 (r1 + 1))) φ
        else
          strings_genSplit.L2 x0 x1 x2 x3 φ)))) : ∃ r, φ r ∧ C x0 x1 x2 x3 r :=
 mEnt (fd := Tryd.f71) (body := B) (V := W) (res := res) <|
 mAsk 5 h beq_t beq_f (fun h =>
 mRet 5 h) fun h =>
 mAsk 5 h seq_t seq_f (fun h =>
 h.elim) fun h =>
 mAsk 5 h dT dF (fun h =>
 mCal 5 h (fun _ h => h) fun r1 _ h =>
 mFin 3 h) fun h =>
 mFin 3 h
end strings_genSplit
end Go.Own

namespace Go.Own
open Go.Proofs D
set_option maxRecDepth 100000
set_option maxHeartbeats 4000000
namespace strings_Split
noncomputable def B : Code := (Tryd.f50.body).getD .skip
def W : List Nat := [0, 1, 4]
def res (r : List ByteArray) : D × List D := (.sl (r.map eS), [])
def C (x0 : ByteArray) (x1 : ByteArray) (r : List ByteArray) : Prop := Ret env 50 [.lit (.string x0), .lit (.string x1)] (res r).1 (res r).2
theorem enter (x0 : ByteArray) (x1 : ByteArray) (φ : List ByteArray → Prop) (h :
    ∃ r1 : (List ByteArray × Bool), strings_genSplit.C x0 x1 0 ((-1)) r1 ∧
    φ r1.1) : ∃ r, φ r ∧ C x0 x1 r :=
 mEnt (fd := Tryd.f50) (body := B) (V := W) (res := res) <|
 mCalE 6 h (fun _ h => h) (fun r1 => cold_sown (l := r1.1) (e := eS) rfl (fun _ => rfl)) (hf := (fun _ => clF_flatR (flat_sown (e := eS) (fun _ => rfl)) rfl)) fun r1 _ h =>
 mRet 2 h
end strings_Split
end Go.Own

namespace Go.Own
open Go.Proofs D
set_option maxRecDepth 100000
set_option maxHeartbeats 4000000
namespace drossref02_words
noncomputable def B : Code := (Tryd.f65.body).getD .skip
def W : List Nat := [0, 2, 3, 4, 6, 11, 17]
def res (r : List ByteArray) : D × List D := (.own (r.map eS), [])
def C (x0 : ByteArray) (r : List ByteArray) : Prop := Ret env 65 [.lit (.string x0)] (res r).1 (res r).2
def L1 (x0 : ByteArray) (y3_L1 : List ByteArray) (y4_L1 : Int) (φ : List ByteArray → Prop) : Prop := Pt env 65 W B [1, 1, 1, 0, 1, 0] [(0, .lit (.string x0)), (3, .own (y3_L1.map eS)), (4, .lit (.int .i64 y4_L1))] (Lv env 65 Tryd.f65 1 res φ)
def L2 (x0 : ByteArray) (y3_L2 : List ByteArray) (y4_L1 : Int) (φ : List ByteArray → Prop) : Prop := Pt env 65 W B [1, 1, 1, 0, 1, 0, 0, 1, 1] [(0, .lit (.string x0)), (3, .own (y3_L2.map eS)), (4, .lit (.int .i64 y4_L1))] (Lv env 65 Tryd.f65 1 res φ)
theorem L1_step (x0 : ByteArray) (y3_L1 : List ByteArray) (y4_L1 : Int) (φ : List ByteArray → Prop) (h :
    (if y4_L1 < (bsize x0) then
      ∃ b1, ((0 : Int) ≤ y4_L1 ∧ x0[(y4_L1).toNat]? = some b1) ∧
      (if (u8i b1) = 32 then
        (y3_L1.length + 1) * 16 ≤ 140737488355328 ∧
        drossref02_words.L2 x0 ((y3_L1 ++ [(⟨#[]⟩ : ByteArray)])) y4_L1 φ
      else
        ∃ a5, lget y3_L1 ((IntKind.wrap .i64 ((y3_L1.length : Int) - 1))) = some a5 ∧
        0 ≤ y4_L1 ∧
        0 ≤ (IntKind.wrap .i64 (y4_L1 + 1)) ∧
        (y4_L1.toNat ≤ ((IntKind.wrap .i64 (y4_L1 + 1))).toNat ∧ ((IntKind.wrap .i64 (y4_L1 + 1))).toNat ≤ x0.size) ∧
        (a5).size + ((bsub x0 y4_L1.toNat ((IntKind.wrap .i64 (y4_L1 + 1))).toNat)).size ≤ 9223372036854775807 ∧
        drossref02_words.L2 x0 ((lset y3_L1 (IntKind.wrap .i64 ((y3_L1.length : Int) - 1)) (a5 ++ (bsub x0 y4_L1.toNat ((IntKind.wrap .i64 (y4_L1 + 1))).toNat)))) y4_L1 φ)
    else
      φ y3_L1)) : L1 x0 y3_L1 y4_L1 φ :=
 mIn <|
 mAsk 5 h dT dF (fun h =>
 mSt 6 h fun b1 h =>
 mAsk 0 h beq_t beq_f (fun h =>
 mApp 5 eS y3_L1 ([(⟨#[]⟩ : ByteArray)]) h fun h =>
 mFin 3 h) fun h =>
 mLen 6 eS y3_L1 <|
 mLen 3 eS y3_L1 <|
 mIy 1 eS h fun a5 h6 h =>
 mLd 0 eS h6 <|
 h.elim fun h7 h =>
 h.elim fun h8 h =>
 h.elim fun h9 h =>
 mVl 4 (val_strsub (t := 9) (x := (.tmp 31)) (lo := (some (.tmp 32))) (hi := (some (.tmp 34))) (lo' := some (y4_L1).toNat) (hi' := some ((IntKind.wrap .i64 (y4_L1 + 1))).toNat) (s1 := x0) (by kernel_rfl) (by kernel_rfl) (optNat_some (i := y4_L1) (q := .i64) (by kernel_rfl) h7) (optNat_some (i := (IntKind.wrap .i64 (y4_L1 + 1))) (q := .i64) (by kernel_rfl) h8) (by kernel_rfl) h9.1 h9.2) <|
 h.elim fun h10 h =>
 mBi 0 (bin_cat (t := 9) h10) <|
 mIyf 0 eS h6 <|
 mSto 0 eS ((a5 ++ (bsub x0 y4_L1.toNat ((IntKind.wrap .i64 (y4_L1 + 1))).toNat))) h6 <|
 mFin 1 h) fun h =>
 mRet 7 h
theorem L2_step (x0 : ByteArray) (y3_L2 : List ByteArray) (y4_L1 : Int) (φ : List ByteArray → Prop) (h :
    drossref02_words.L1 x0 y3_L2 ((IntKind.wrap .i64 (y4_L1 + 1))) φ) : L2 x0 y3_L2 y4_L1 φ :=
 mIn <|
 mFin 5 h
theorem enter (x0 : ByteArray) (φ : List ByteArray → Prop) (h :
    (if x0.toList = ((⟨#[]⟩ : ByteArray)).toList then
      φ ([])
    else
      drossref02_words.L1 x0 ([(⟨#[]⟩ : ByteArray)]) 0 φ)) : ∃ r, φ r ∧ C x0 r :=
 mEnt (fd := Tryd.f65) (body := B) (V := W) (res := res) <|
 mAsk 5 h seq_t seq_f (fun h =>
 mRet 5 h) fun h =>
 mFin 10 h
end drossref02_words
end Go.Own

namespace Go.Own
open Go.Proofs D
set_option maxRecDepth 100000
set_option maxHeartbeats 4000000
namespace attrset_Members
noncomputable def B : Code := (Tryd.f17.body).getD .skip
def W : List Nat := [0, 2, 3, 5]
def res (r : List Int) : D × List D := (.own (r.map (eI .i64)), [])
def C (x0 : Int) (r : List Int) : Prop := Ret env 17 [.lit (.int .u32 x0)] (res r).1 (res r).2
def L1 (x0 : Int) (y3_L1 : List Int) (φ : List Int → Prop) : Prop := Pt env 17 W B [1, 1, 0, 0] [(0, .lit (.int .u32 x0)), (3, .own (y3_L1.map (eI .i64)))] (Lv env 17 Tryd.f17 1 res φ)
theorem L1_step (x0 : Int) (y3_L1 : List Int) (φ : List Int → Prop) (h :
    (if x0 = 0 then
      φ y3_L1
    else
      (0 ≤ x0 ∧ x0 < 4294967296) ∧
      (y3_L1.length + 1) * 8 ≤ 140737488355328 ∧
      attrset_Members.L1 ((bAnd .u32 x0 (IntKind.wrap .u32 (x0 - 1)))) ((y3_L1 ++ [(tz32 x0)])) φ)) : L1 x0 y3_L1 φ :=
 mIn <|
 mAskN 3 h bne_t bne_f (fun h =>
 h.elim fun h1 h =>
 mCalP 6 (show Ret env 45 [.lit (.int .u32 x0)] (.lit (.int .i64 ((tz32 x0)))) [] from ret_zeros (by kernel_rfl) h1) <|
 mApp 1 (eI .i64) y3_L1 ([(tz32 x0)]) h fun h =>
 mFin 9 h) fun h =>
 mRet 7 h
theorem enter (x0 : Int) (φ : List Int → Prop) (h :
    attrset_Members.L1 x0 ([]) φ) : ∃ r, φ r ∧ C x0 r :=
 mEnt (fd := Tryd.f17) (body := B) (V := W) (res := res) <|
 mFin 6 h
end attrset_Members
end Go.Own

namespace Go.Own
open Go.Proofs D
set_option maxRecDepth 100000
set_option maxHeartbeats 4000000
namespace drossref02_Full
noncomputable def B : Code := (Tryd.f33.body).getD .skip
def W : List Nat := [0, 2, 3, 4, 11]
def res (r : Int) : D × List D := (.lit (.int .u32 r), [])
def C (x0 : Int) (r : Int) : Prop := Ret env 33 [.lit (.int .i64 x0)] (res r).1 (res r).2
def L1 (x0 : Int) (y3_L1 : Int) (y4_L1 : Int) (φ : Int → Prop) : Prop := Pt env 33 W B [1, 1, 0, 1, 0] [(0, .lit (.int .i64 x0)), (3, .lit (.int .u32 y3_L1)), (4, .lit (.int .i64 y4_L1))] (Lv env 33 Tryd.f33 1 res φ)
theorem L1_step (x0 : Int) (y3_L1 : Int) (y4_L1 : Int) (φ : Int → Prop) (h :
    (if y4_L1 < x0 then
      (if y4_L1 < 32 then
        0 ≤ y4_L1 ∧
        drossref02_Full.L1 x0 ((bOr .u32 y3_L1 (shlw .u32 1 y4_L1))) ((IntKind.wrap .i64 (y4_L1 + 1))) φ
      else
        φ y3_L1)
    else
      φ y3_L1)) : L1 x0 y3_L1 y4_L1 φ :=
 mIn <|
 mAsk 4 h dT dF (fun h =>
 mAsk 2 h dT dF (fun h =>
 h.elim fun h1 h =>
 mBi 7 (bin_shl (t := 25) (q := .u32) (q' := .i64) (i1 := 1) h1) <|
 mFin 8 h) fun h =>
 mRet 8 h) fun h =>
 mRet 11 h
theorem enter (x0 : Int) (φ : Int → Prop) (h :
    drossref02_Full.L1 x0 0 0 φ) : ∃ r, φ r ∧ C x0 r :=
 mEnt (fd := Tryd.f33) (body := B) (V := W) (res := res) <|
 mFin 9 h
end drossref02_Full
end Go.Own

namespace Go.Own
open Go.Proofs D
set_option maxRecDepth 100000
set_option maxHeartbeats 4000000
namespace drossref02_Has
noncomputable def B : Code := (Tryd.f46.body).getD .skip
def W : List Nat := [0, 1, 4]
def res (r : Bool) : D × List D := (.lit (.bool r), [])
def C (x0 : Int) (x1 : Int) (r : Bool) : Prop := Ret env 46 [.lit (.int .u32 x0), .lit (.int .i64 x1)] (res r).1 (res r).2
theorem enter (x0 : Int) (x1 : Int) (φ : Bool → Prop) (h :
    (if 0 ≤ x1 then
      (if x1 < 32 then
        0 ≤ x1 ∧
        φ (((bAnd .u32 (shrw .u32 x0 x1) 1) == 1))
      else
        φ false)
    else
      φ false)) : ∃ r, φ r ∧ C x0 x1 r :=
 mEnt (fd := Tryd.f46) (body := B) (V := W) (res := res) <|
 mAsk 5 h dT dF (fun h =>
 mAsk 2 h dT dF (fun h =>
 h.elim fun h1 h =>
 mBi 4 (bin_shr (t := 25) (q := .u32) (q' := .i64) (i1 := x0) h1) <|
 mRet 5 h) fun h =>
 mRet 10 h) fun h =>
 mRet 13 h
end drossref02_Has
end Go.Own

namespace Go.Own
open Go.Proofs D
set_option maxRecDepth 100000
set_option maxHeartbeats 4000000
namespace drossref02_Members
noncomputable def B : Code := (Tryd.f18.body).getD .skip
def W : List Nat := [0, 2, 3, 4, 6, 11]
def res (r : List Int) : D × List D := (.own (r.map (eI .i64)), [])
def C (x0 : Int) (r : List Int) : Prop := Ret env 18 [.lit (.int .u32 x0)] (res r).1 (res r).2
def L1 (x0 : Int) (y3_L1 : List Int) (y4_L1 : Int) (φ : List Int → Prop) : Prop := Pt env 18 W B [1, 1, 0, 1, 0] [(0, .lit (.int .u32 x0)), (3, .own (y3_L1.map (eI .i64))), (4, .lit (.int .i64 y4_L1))] (Lv env 18 Tryd.f18 1 res φ)
def L2 (x0 : Int) (y3_L2 : List Int) (y4_L1 : Int) (φ : List Int → Prop) : Prop := Pt env 18 W B [1, 1, 0, 1, 0, 0, 1, 1] [(0, .lit (.int .u32 x0)), (3, .own (y3_L2.map (eI .i64))), (4, .lit (.int .i64 y4_L1))] (Lv env 18 Tryd.f18 1 res φ)
theorem L1_step (x0 : Int) (y3_L1 : List Int) (y4_L1 : Int) (φ : List Int → Prop) (h :
    (if y4_L1 < 32 then
      ∃ r1 : Bool, drossref02_Has.C x0 y4_L1 r1 ∧
      (if r1 = true then
        (y3_L1.length + 1) * 8 ≤ 140737488355328 ∧
        drossref02_Members.L2 x0 ((y3_L1 ++ [y4_L1])) y4_L1 φ
      else
        drossref02_Members.L2 x0 y3_L1 y4_L1 φ)
    else
      φ y3_L1)) : L1 x0 y3_L1 y4_L1 φ :=
 mIn <|
 mAsk 3 h dT dF (fun h =>
 mCalB 6 h (fun _ h => h) (fun _ h =>
 mApp 6 (eI .i64) y3_L1 ([y4_L1]) h fun h =>
 mFin 2 h) fun _ h =>
 mFin 3 h) fun h =>
 mRet 7 h
theorem L2_step (x0 : Int) (y3_L2 : List Int) (y4_L1 : Int) (φ : List Int → Prop) (h :
    drossref02_Members.L1 x0 y3_L2 ((IntKind.wrap .i64 (y4_L1 + 1))) φ) : L2 x0 y3_L2 y4_L1 φ :=
 mIn <|
 mFin 5 h
theorem enter (x0 : Int) (φ : List Int → Prop) (h :
    drossref02_Members.L1 x0 ([]) 0 φ) : ∃ r, φ r ∧ C x0 r :=
 mEnt (fd := Tryd.f18) (body := B) (V := W) (res := res) <|
 mFin 9 h
end drossref02_Members
end Go.Own

namespace Go.Own
open Go.Proofs D
set_option maxRecDepth 100000
set_option maxHeartbeats 4000000
namespace attrset_Of
noncomputable def B : Code := (Tryd.f13.body).getD .skip
def W : List Nat := [0, 2, 3, 4, 6, 7, 8, 9, 10, 18]
def res (r : Int × Int) : D × List D := (.tup [.lit (.int .u32 r.1), .lit (.int .i64 r.2)], [])
def C (x0 : List Int) (r : Int × Int) : Prop := Ret env 13 [.sl (x0.map (eI .i64))] (res r).1 (res r).2
def L1 (x0 : List Int) (y4_L1 : Int) (y9_L1 : Int) (φ : Int × Int → Prop) : Prop := Pt env 13 W B [1, 1, 0, 1, 0] [(0, .sl (x0.map (eI .i64))), (4, .lit (.int .u32 y4_L1)), (7, .sl (x0.map (eI .i64))), (8, .lit (.int .i64 ((x0.length : Int)))), (9, .lit (.int .i64 y9_L1))] (Lv env 13 Tryd.f13 1 res φ)
theorem L1_step (x0 : List Int) (y4_L1 : Int) (y9_L1 : Int) (φ : Int × Int → Prop) (h :
    (if y9_L1 < (x0.length : Int) then
      ∃ a1, lget x0 y9_L1 = some a1 ∧
      (if a1 < 0 then
        φ ((0, 7))
      else
        (if 16 ≤ a1 then
          φ ((0, 7))
        else
          0 ≤ a1 ∧
          attrset_Of.L1 x0 ((bOr .u32 y4_L1 (shlw .u32 1 a1))) ((IntKind.wrap .i64 (y9_L1 + 1))) φ))
    else
      φ ((y4_L1, 0)))) : L1 x0 y4_L1 y9_L1 φ :=
 mIn <|
 mAsk 2 h dT dF (fun h =>
 mIx 4 (eI .i64) h fun a1 h2 h =>
 mAsk 5 h dT dF (fun h =>
 mRet 10 h) fun h =>
 mAsk 2 h dT dF (fun h =>
 mRet 7 h) fun h =>
 h.elim fun h3 h =>
 mBi 7 (bin_shl (t := 25) (q := .u32) (q' := .i64) (i1 := 1) h3) <|
 mFin 7 h) fun h =>
 mRet 8 h
theorem enter (x0 : List Int) (φ : Int × Int → Prop) (h :
    attrset_Of.L1 x0 0 0 φ) : ∃ r, φ r ∧ C x0 r :=
 mEnt (fd := Tryd.f13) (body := B) (V := W) (res := res) <|
 mLen 9 (eI .i64) x0 <|
 mFin 2 h
end attrset_Of
end Go.Own

namespace Go.Own
open Go.Proofs D
set_option maxRecDepth 100000
set_option maxHeartbeats 4000000
namespace drossref02_Of
noncomputable def B : Code := (Tryd.f15.body).getD .skip
def W : List Nat := [0, 2, 3, 4, 5, 9, 23]
def res (r : Int × Int) : D × List D := (.tup [.lit (.int .u32 r.1), .lit (.int .i64 r.2)], [])
def C (x0 : List Int) (r : Int × Int) : Prop := Ret env 15 [.sl (x0.map (eI .i64))] (res r).1 (res r).2
def L1 (x0 : List Int) (y4_L1 : Int) (y5_L1 : Int) (φ : Int × Int → Prop) : Prop := Pt env 15 W B [1, 1, 0, 1, 0] [(0, .sl (x0.map (eI .i64))), (4, .lit (.int .u32 y4_L1)), (5, .lit (.int .i64 y5_L1))] (Lv env 15 Tryd.f15 1 res φ)
theorem L1_step (x0 : List Int) (y4_L1 : Int) (y5_L1 : Int) (φ : Int × Int → Prop) (h :
    (if y5_L1 < (x0.length : Int) then
      ∃ a1, lget x0 y5_L1 = some a1 ∧
      (if a1 < 0 then
        φ ((0, 7))
      else
        (if 16 ≤ a1 then
          φ ((0, 7))
        else
          0 ≤ a1 ∧
          drossref02_Of.L1 x0 ((bOr .u32 y4_L1 (shlw .u32 1 a1))) ((IntKind.wrap .i64 (y5_L1 + 1))) φ))
    else
      φ ((y4_L1, 0)))) : L1 x0 y4_L1 y5_L1 φ :=
 mIn <|
 mLen 4 (eI .i64) x0 <|
 mAsk 0 h dT dF (fun h =>
 mIx 6 (eI .i64) h fun a1 h2 h =>
 mAsk 1 h dT dF (fun h =>
 mRet 13 h) fun h =>
 mIxf 3 (eI .i64) h2 <|
 mAsk 1 h dT dF (fun h =>
 mRet 7 h) fun h =>
 mIxf 8 (eI .i64) h2 <|
 h.elim fun h3 h =>
 mBi 1 (bin_shl (t := 25) (q := .u32) (q' := .i64) (i1 := 1) h3) <|
 mFin 8 h) fun h =>
 mRet 8 h
theorem enter (x0 : List Int) (φ : Int × Int → Prop) (h :
    drossref02_Of.L1 x0 0 0 φ) : ∃ r, φ r ∧ C x0 r :=
 mEnt (fd := Tryd.f15) (body := B) (V := W) (res := res) <|
 mFin 10 h
end drossref02_Of
end Go.Own

namespace Go.Own
open Go.Proofs D
set_option maxRecDepth 100000
set_option maxHeartbeats 4000000
namespace slices_Equal_sint_int
noncomputable def B : Code := (Tryd.f16.body).getD .skip
def W : List Nat := [0, 1, 4, 5, 10, 12, 13, 14, 24]
def res (r : Bool) : D × List D := (.lit (.bool r), [])
def C (x0 : List Int) (x1 : List Int) (r : Bool) : Prop := Ret env 16 [.sl (x0.map (eI .i64)), .sl (x1.map (eI .i64))] (res r).1 (res r).2
def L1 (x0 : List Int) (x1 : List Int) (y13_L1 : Int) (φ : Bool → Prop) : Prop := Pt env 16 W B [1, 1, 0, 1, 0] [(0, .sl (x0.map (eI .i64))), (1, .sl (x1.map (eI .i64))), (12, .lit (.int .i64 ((x0.length : Int)))), (13, .lit (.int .i64 y13_L1))] (Lv env 16 Tryd.f16 2 res φ)
theorem L1_step (x0 : List Int) (x1 : List Int) (y13_L1 : Int) (φ : Bool → Prop) (h :
    (if y13_L1 < (x0.length : Int) then
      ∃ a1, lget x0 y13_L1 = some a1 ∧
      ∃ a3, lget x1 y13_L1 = some a3 ∧
      (if a1 = a3 then
        slices_Equal_sint_int.L1 x0 x1 ((IntKind.wrap .i64 (y13_L1 + 1))) φ
      else
        φ false)
    else
      φ true)) : L1 x0 x1 y13_L1 φ :=
 mIn <|
 mAsk 2 h dT dF (fun h =>
 mIx 10 (eI .i64) h fun a1 h2 h =>
 mIx 3 (eI .i64) h fun a3 h4 h =>
 mAskN 1 h bne_t bne_f (fun h =>
 mRet 5 h) fun h =>
 mFin 7 h) fun h =>
 mRet 6 h
theorem enter (x0 : List Int) (x1 : List Int) (φ : Bool → Prop) (h :
    (if (x0.length : Int) = (x1.length : Int) then
      slices_Equal_sint_int.L1 x0 x1 0 φ
    else
      φ false)) : ∃ r, φ r ∧ C x0 x1 r :=
 mEnt (fd := Tryd.f16) (body := B) (V := W) (res := res) <|
 mLen 5 (eI .i64) x0 <|
 mLen 1 (eI .i64) x1 <|
 mAskN 0 h bne_t bne_f (fun h =>
 mRet 5 h) fun h =>
 mLen 5 (eI .i64) x0 <|
 mFin 2 h
end slices_Equal_sint_int
end Go.Own

namespace Go.Own
open Go.Proofs D
set_option maxRecDepth 100000
set_option maxHeartbeats 4000000
namespace attrset_Named
noncomputable def B : Code := (Tryd.f24.body).getD .skip
def W : List Nat := [0, 1, 4, 5, 6, 7, 8, 10, 11, 12, 20, 25, 26, 27, 28, 29, 36, 45, 57]
def res (r : Int × Int) : D × List D := (.tup [.lit (.int .u32 r.1), .lit (.int .i64 r.2)], [])
def C (x0 : ByteArray) (x1 : List ByteArray) (r : Int × Int) : Prop := Ret env 24 [.lit (.string x0), .sl (x1.map eS)] (res r).1 (res r).2
def L1 (x1 : List ByteArray) (r2 : List ByteArray) (y8_L1 : List Int) (y28_L1 : Int) (φ : Int × Int → Prop) : Prop := Pt env 24 W B [1, 1, 1, 1, 1, 0, 1, 0] [(1, .sl (x1.map eS)), (7, .sl (r2.map eS)), (8, .own (y8_L1.map (eI .i64))), (26, .sl (r2.map eS)), (27, .lit (.int .i64 ((r2.length : Int)))), (28, .lit (.int .i64 y28_L1))] (Lv env 24 Tryd.f24 2 res φ)
def L2 (y8_L1 : List Int) (y12_L2 : Int) (φ : Int × Int → Prop) : Prop := Pt env 24 W B [1, 1, 1, 1, 1, 1, 0, 1, 0] [(8, .own (y8_L1.map (eI .i64))), (12, .lit (.int .i64 y12_L2))] (Lv env 24 Tryd.f24 2 res φ)
theorem L1_step (x1 : List ByteArray) (r2 : List ByteArray) (y8_L1 : List Int) (y28_L1 : Int) (φ : Int × Int → Prop) (h :
    (if y28_L1 < (r2.length : Int) then
      ∃ a4, lget r2 y28_L1 = some a4 ∧
      ∃ r6 : Int, slices_Index_sstring_string.C x1 a4 r6 ∧
      (if r6 < 0 then
        φ ((0, 4))
      else
        (y8_L1.length + 1) * 8 ≤ 140737488355328 ∧
        attrset_Named.L1 x1 r2 ((y8_L1 ++ [r6])) ((IntKind.wrap .i64 (y28_L1 + 1))) φ)
    else
      attrset_Named.L2 y8_L1 1 φ)) : L1 x1 r2 y8_L1 y28_L1 φ :=
 mIn <|
 mAsk 2 h dT dF (fun h =>
 mIx 4 eS h fun a4 h5 h =>
 mCal 6 h (fun _ h => h) fun r6 _ h =>
 mAsk 4 h dT dF (fun h =>
 mRet 6 h) fun h =>
 mApp 7 (eI .i64) y8_L1 ([r6]) h fun h =>
 mFin 6 h) fun h =>
 mFin 6 h
theorem L2_step (y8_L1 : List Int) (y12_L2 : Int) (φ : Int × Int → Prop) (h :
    (if y12_L2 < (y8_L1.length : Int) then
      ∃ a8, lget y8_L1 y12_L2 = some a8 ∧
      ∃ a10, lget y8_L1 ((IntKind.wrap .i64 (y12_L2 - 1))) = some a10 ∧
      (if a8 ≤ a10 then
        φ ((0, 2))
      else
        attrset_Named.L2 y8_L1 ((IntKind.wrap .i64 (y12_L2 + 1))) φ)
    else
      ∃ r12 : Int × Int, attrset_Of.C y8_L1 r12 ∧
      φ ((r12.1, r12.2)))) : L2 y8_L1 y12_L2 φ :=
 mIn <|
 mLen 4 (eI .i64) y8_L1 <|
 mAsk 0 h dT dF (fun h =>
 mIy 6 (eI .i64) h fun a8 h9 h =>
 mLd 0 (eI .i64) h9 <|
 mIy 3 (eI .i64) h fun a10 h11 h =>
 mLd 0 (eI .i64) h11 <|
 mAsk 0 h dT dF (fun h =>
 mRet 6 h) fun h =>
 mFin 8 h) fun h =>
 mCal 5 h (fun _ h => h) (hr := by exact (pr_snap (snap_ow (s := 8) (ps := []) (l := y8_L1) (e := (eI .i64)) (e' := (eI .i64)) (fun _ => rfl) (by kernel_rfl)) pr_nil)) (hf := (fun _ => clF_flat (flat_tup (flts_cons rfl (flts_cons rfl flts_nil))) rfl)) fun r12 _ h =>
 mRet 5 h
theorem enter (x0 : ByteArray) (x1 : List ByteArray) (φ : Int × Int → Prop) (h :
    ∃ r1 : Int, attrset_checked.C x1 r1 ∧
    (if r1 = 0 then
      (if x0.toList = ((⟨#[]⟩ : ByteArray)).toList then
        φ ((0, r1))
      else
        ∃ r2 : List ByteArray, strings_Split.C x0 ((⟨#[32]⟩ : ByteArray)) r2 ∧
        ∃ r3 : Bool, slices_Contains_sstring_string.C r2 ((⟨#[]⟩ : ByteArray)) r3 ∧
        (if r3 = true then
          φ ((0, 2))
        else
          attrset_Named.L1 x1 r2 ([]) 0 φ))
    else
      φ ((0, r1)))) : ∃ r, φ r ∧ C x0 x1 r :=
 mEnt (fd := Tryd.f24) (body := B) (V := W) (res := res) <|
 mCal 6 h (fun _ h => h) fun r1 _ h =>
 mAskN 4 h bne_t bne_f (fun h =>
 mRet 11 h) fun h =>
 mAsk 2 h seq_t seq_f (fun h =>
 mRet 8 h) fun h =>
 mCal 6 h (fun _ h => h) (hf := (fun _ => clF_both)) fun r2 _ h =>
 mCalB 4 h (fun _ h => h) (fun _ h =>
 mRet 6 h) fun _ h =>
 mLen 8 eS r2 <|
 mFin 2 h
end attrset_Named
end Go.Own

namespace Go.Own
open Go.Proofs D
set_option maxRecDepth 100000
set_option maxHeartbeats 4000000
namespace drossref02_Named
noncomputable def B : Code := (Tryd.f43.body).getD .skip
def W : List Nat := [0, 1, 4, 5, 6, 7, 8, 9, 10, 11, 12, 13, 17, 24, 31, 35, 41, 52, 55, 63, 75]
def res (r : Int × Int) : D × List D := (.tup [.lit (.int .u32 r.1), .lit (.int .i64 r.2)], [])
def C (x0 : ByteArray) (x1 : List ByteArray) (r : Int × Int) : Prop := Ret env 43 [.lit (.string x0), .sl (x1.map eS)] (res r).1 (res r).2
def L1 (x1 : List ByteArray) (r2 : List ByteArray) (y8_L1 : Int) (φ : Int × Int → Prop) : Prop := Pt env 43 W B [1, 1, 1, 0, 1, 0] [(1, .sl (x1.map eS)), (7, .own (r2.map eS)), (8, .lit (.int .i64 y8_L1))] (Lv env 43 Tryd.f43 2 res φ)
def L2 (x1 : List ByteArray) (r2 : List ByteArray) (y9_L2 : List Int) (y10_L2 : Int) (φ : Int × Int → Prop) : Prop := Pt env 43 W B [1, 1, 1, 1, 1, 0, 1, 0] [(1, .sl (x1.map eS)), (7, .own (r2.map eS)), (9, .own (y9_L2.map (eI .i64))), (10, .lit (.int .i64 y10_L2))] (Lv env 43 Tryd.f43 2 res φ)
def L3 (x1 : List ByteArray) (r2 : List ByteArray) (y9_L3 : List Int) (y10_L3 : Int) (y11_L3 : Int) (y12_L3 : Int) (φ : Int × Int → Prop) : Prop := Pt env 43 W B [1, 1, 1, 1, 1, 0, 1, 0, 0, 1, 0, 0, 1, 0, 1, 0] [(1, .sl (x1.map eS)), (7, .own (r2.map eS)), (9, .own (y9_L3.map (eI .i64))), (10, .lit (.int .i64 y10_L3)), (11, .lit (.int .i64 y11_L3)), (12, .lit (.int .i64 y12_L3))] (Lv env 43 Tryd.f43 2 res φ)
def L4 (y9_L4 : List Int) (y13_L4 : Int) (φ : Int × Int → Prop) : Prop := Pt env 43 W B [1, 1, 1, 1, 1, 1, 0, 1, 0] [(9, .own (y9_L4.map (eI .i64))), (13, .lit (.int .i64 y13_L4))] (Lv env 43 Tryd.f43 2 res φ)
def L5 (x1 : List ByteArray) (r2 : List ByteArray) (y9_L5 : List Int) (y10_L5 : Int) (y12_L3 : Int) (y12_L5 : Int) (φ : Int × Int → Prop) : Prop := Pt env 43 W B [1, 1, 1, 1, 1, 0, 1, 0, 0, 1, 0, 0, 1, 0, 1, 0, 0, 1, 1] [(1, .sl (x1.map eS)), (7, .own (r2.map eS)), (9, .own (y9_L5.map (eI .i64))), (10, .lit (.int .i64 y10_L5)), (11, .lit (.int .i64 y12_L3)), (12, .lit (.int .i64 y12_L5))] (Lv env 43 Tryd.f43 2 res φ)
theorem L1_step (x1 : List ByteArray) (r2 : List ByteArray) (y8_L1 : Int) (φ : Int × Int → Prop) (h :
    (if y8_L1 < (r2.length : Int) then
      ∃ a3, lget r2 y8_L1 = some a3 ∧
      (if a3.toList = ((⟨#[]⟩ : ByteArray)).toList then
        φ ((0, 2))
      else
        drossref02_Named.L1 x1 r2 ((IntKind.wrap .i64 (y8_L1 + 1))) φ)
    else
      drossref02_Named.L2 x1 r2 ([]) 0 φ)) : L1 x1 r2 y8_L1 φ :=
 mIn <|
 mLen 4 eS r2 <|
 mAsk 0 h dT dF (fun h =>
 mIy 6 eS h fun a3 h4 h =>
 mLd 0 eS h4 <|
 mAsk 0 h seq_t seq_f (fun h =>
 mRet 6 h) fun h =>
 mFin 8 h) fun h =>
 mFin 9 h
theorem L2_step (x1 : List ByteArray) (r2 : List ByteArray) (y9_L2 : List Int) (y10_L2 : Int) (φ : Int × Int → Prop) (h :
    (if y10_L2 < (r2.length : Int) then
      drossref02_Named.L3 x1 r2 y9_L2 y10_L2 ((-1)) 0 φ
    else
      drossref02_Named.L4 y9_L2 1 φ)) : L2 x1 r2 y9_L2 y10_L2 φ :=
 mIn <|
 mLen 4 eS r2 <|
 mAsk 0 h dT dF (fun h =>
 mFin 9 h) fun h =>
 mFin 6 h
theorem L3_step (x1 : List ByteArray) (r2 : List ByteArray) (y9_L3 : List Int) (y10_L3 : Int) (y11_L3 : Int) (y12_L3 : Int) (φ : Int × Int → Prop) (h :
    (if y12_L3 < (x1.length : Int) then
      ∃ a5, lget x1 y12_L3 = some a5 ∧
      ∃ a7, lget r2 y10_L3 = some a7 ∧
      (if a5.toList = a7.toList then
        drossref02_Named.L5 x1 r2 y9_L3 y10_L3 y12_L3 y12_L3 φ
      else
        drossref02_Named.L5 x1 r2 y9_L3 y10_L3 y11_L3 y12_L3 φ)
    else
      (if y11_L3 < 0 then
        φ ((0, 4))
      else
        (y9_L3.length + 1) * 8 ≤ 140737488355328 ∧
        drossref02_Named.L2 x1 r2 ((y9_L3 ++ [y11_L3])) ((IntKind.wrap .i64 (y10_L3 + 1))) φ))) : L3 x1 r2 y9_L3 y10_L3 y11_L3 y12_L3 φ :=
 mIn <|
 mLen 4 eS x1 <|
 mAsk 0 h dT dF (fun h =>
 mIx 6 eS h fun a5 h6 h =>
 mIy 3 eS h fun a7 h8 h =>
 mLd 0 eS h8 <|
 mAsk 0 h seq_t seq_f (fun h =>
 mFin 6 h) fun h =>
 mFin 3 h) fun h =>
 mAsk 5 h dT dF (fun h =>
 mRet 6 h) fun h =>
 mApp 7 (eI .i64) y9_L3 ([y11_L3]) h fun h =>
 mFin 7 h
theorem L4_step (y9_L4 : List Int) (y13_L4 : Int) (φ : Int × Int → Prop) (h :
    (if y13_L4 < (y9_L4.length : Int) then
      ∃ a10, lget y9_L4 y13_L4 = some a10 ∧
      ∃ a12, lget y9_L4 ((IntKind.wrap .i64 (y13_L4 - 1))) = some a12 ∧
      (if a10 ≤ a12 then
        φ ((0, 2))
      else
        drossref02_Named.L4 y9_L4 ((IntKind.wrap .i64 (y13_L4 + 1))) φ)
    else
      ∃ r14 : Int × Int, drossref02_Of.C y9_L4 r14 ∧
      φ ((r14.1, r14.2)))) : L4 y9_L4 y13_L4 φ :=
 mIn <|
 mLen 4 (eI .i64) y9_L4 <|
 mAsk 0 h dT dF (fun h =>
 mIy 6 (eI .i64) h fun a10 h11 h =>
 mLd 0 (eI .i64) h11 <|
 mIy 3 (eI .i64) h fun a12 h13 h =>
 mLd 0 (eI .i64) h13 <|
 mAsk 0 h dT dF (fun h =>
 mRet 6 h) fun h =>
 mFin 8 h) fun h =>
 mCal 5 h (fun _ h => h) (hr := by exact (pr_snap (snap_ow (s := 9) (ps := []) (l := y9_L4) (e := (eI .i64)) (e' := (eI .i64)) (fun _ => rfl) (by kernel_rfl)) pr_nil)) (hf := (fun _ => clF_flat (flat_tup (flts_cons rfl (flts_cons rfl flts_nil))) rfl)) fun r14 _ h =>
 mRet 5 h
theorem L5_step (x1 : List ByteArray) (r2 : List ByteArray) (y9_L5 : List Int) (y10_L5 : Int) (y12_L3 : Int) (y12_L5 : Int) (φ : Int × Int → Prop) (h :
    drossref02_Named.L3 x1 r2 y9_L5 y10_L5 y12_L3 ((IntKind.wrap .i64 (y12_L5 + 1))) φ) : L5 x1 r2 y9_L5 y10_L5 y12_L3 y12_L5 φ :=
 mIn <|
 mFin 5 h
theorem enter (x0 : ByteArray) (x1 : List ByteArray) (φ : Int × Int → Prop) (h :
    ∃ r1 : Int, drossref02_ValidNames.C x1 r1 ∧
    (if r1 = 0 then
      ∃ r2 : List ByteArray, drossref02_words.C x0 r2 ∧
      drossref02_Named.L1 x1 r2 0 φ
    else
      φ ((0, r1)))) : ∃ r, φ r ∧ C x0 x1 r :=
 mEnt (fd := Tryd.f43) (body := B) (V := W) (res := res) <|
 mCal 6 h (fun _ h => h) fun r1 _ h =>
 mAskN 4 h bne_t bne_f (fun h =>
 mRet 7 h) fun h =>
 mCal 5 h (fun _ h => h) (hf := (fun _ => clF_flat (flat_ow (e := eS) (fun _ => rfl)) rfl)) fun r2 _ h =>
 mFin 5 h
end drossref02_Named
end Go.Own

namespace Go.Own
open Go.Proofs D
set_option maxRecDepth 100000
set_option maxHeartbeats 4000000
namespace strings_Join
noncomputable def B : Code := (Tryd.f49.body).getD .skip
def W : List Nat := [0, 1, 4, 5, 7, 8, 10, 12, 13, 15, 22, 29, 39, 40, 41, 42, 49, 63, 64, 65, 66]
def res (r : ByteArray) : D × List D := (.lit (.string r), [])
def C (x0 : List ByteArray) (x1 : ByteArray) (r : ByteArray) : Prop := Ret env 49 [.sl (x0.map eS), .lit (.string x1)] (res r).1 (res r).2
def L2 (x0 : List ByteArray) (x1 : ByteArray) (y5_L2 : Int) (φ : ByteArray → Prop) : Prop := Pt env 49 W B [1, 1, 1, 1, 0, 0] [(0, .sl (x0.map eS)), (1, .lit (.string x1)), (5, .lit (.int .i64 y5_L2))] (Lv env 49 Tryd.f49 2 res φ)
def L1 (x0 : List ByteArray) (x1 : ByteArray) (y5_L1 : Int) (y41_L1 : Int) (φ : ByteArray → Prop) : Prop := Pt env 49 W B [1, 1, 1, 1, 0, 1, 0] [(0, .sl (x0.map eS)), (1, .lit (.string x1)), (5, .lit (.int .i64 y5_L1)), (39, .sl (x0.map eS)), (40, .lit (.int .i64 ((x0.length : Int)))), (41, .lit (.int .i64 y41_L1))] (Lv env 49 Tryd.f49 2 res φ)
def L3 (x0 : List ByteArray) (x1 : ByteArray) (y8_L3 : List UInt8) (y65_L3 : Int) (φ : ByteArray → Prop) : Prop := Pt env 49 W B [1, 1, 1, 1, 1, 1, 1, 1, 0, 1, 0] [(0, .sl (x0.map eS)), (1, .lit (.string x1)), (8, .bld 80 5 y8_L3), (63, .sl (((List.take (x0.length - 1) (List.drop 1 x0))).map eS)), (64, .lit (.int .i64 (((List.take (x0.length - 1) (List.drop 1 x0)).length : Int)))), (65, .lit (.int .i64 y65_L3))] (Lv env 49 Tryd.f49 2 res φ)
theorem L2_step (x0 : List ByteArray) (x1 : ByteArray) (y5_L2 : Int) (φ : ByteArray → Prop) (h :
    strings_Join.L1 x0 x1 y5_L2 0 φ) : L2 x0 x1 y5_L2 φ :=
 mIn <|
 mLen 2 eS x0 <|
 mFin 2 h
theorem L1_step (x0 : List ByteArray) (x1 : ByteArray) (y5_L1 : Int) (y41_L1 : Int) (φ : ByteArray → Prop) (h :
    (if y41_L1 < (x0.length : Int) then
      ∃ a4, lget x0 y41_L1 = some a4 ∧
      (if (IntKind.wrap .i64 (9223372036854775807 - y5_L1)) < (bsize a4) then
        False
      else
        strings_Join.L1 x0 x1 ((IntKind.wrap .i64 (y5_L1 + (bsize a4)))) ((IntKind.wrap .i64 (y41_L1 + 1))) φ)
    else
      (0 ≤ y5_L1 ∧ y5_L1 ≤ 70368744177664) ∧
      ∃ a7, lget x0 0 = some a7 ∧
      0 + a7.size ≤ 140737488355328 ∧
      (1 ≤ x0.length ∧ x0.length ≤ x0.length) ∧
      strings_Join.L3 x0 x1 (([] ++ a7.data.toList)) 0 φ)) : L1 x0 x1 y5_L1 y41_L1 φ :=
 mIn <|
 mAsk 2 h dT dF (fun h =>
 mIx 4 eS h fun a4 h5 h =>
 mAsk 8 h dT dF (fun h =>
 h.elim) fun h =>
 mFin 14 h) fun h =>
 h.elim fun h6 h =>
 mCalP 8 (show Ret env 68 [.bld 80 5 ([]), .lit (.int .i64 y5_L1)] (.tup []) [.bld 80 5 ([])] from ret_grow (by kernel_rfl) h6) <|
 mIx 3 eS h fun a7 h8 h =>
 h.elim fun h9 h =>
 mCalP 1 (show Ret env 69 [.bld 80 5 ([]), .lit (.string a7)] (.tup [.lit (.int .i64 ((bsize a7))), .lit .nilIface]) [.bld 80 5 (([] ++ a7.data.toList))] from ret_write (by kernel_rfl) h9) <|
 h.elim fun h10 h =>
 mVl 3 (val_slice_sl (t := 35) (x := (.tmp 62)) (lo := (some (.const (.int .i64 1)))) (hi := none) (lo' := some ((1 : Int)).toNat) (hi' := none) (e := eS) (l := x0) (et := 9) (k := 1) (by kernel_rfl) (by kernel_rfl) (by kernel_rfl) optNat_none (by kernel_rfl) (by kernel_rfl) (fun _ => rfl) (by kernel_rfl) h10.1 h10.2) <|
 mLen 0 eS ((List.take (x0.length - 1) (List.drop 1 x0))) <|
 mFin 2 h
theorem L3_step (x0 : List ByteArray) (x1 : ByteArray) (y8_L3 : List UInt8) (y65_L3 : Int) (φ : ByteArray → Prop) (h :
    (if y65_L3 < ((List.take (x0.length - 1) (List.drop 1 x0)).length : Int) then
      ∃ a11, lget ((List.take (x0.length - 1) (List.drop 1 x0))) y65_L3 = some a11 ∧
      y8_L3.length + x1.size ≤ 140737488355328 ∧
      ((y8_L3 ++ x1.data.toList)).length + a11.size ≤ 140737488355328 ∧
      strings_Join.L3 x0 x1 (((y8_L3 ++ x1.data.toList) ++ a11.data.toList)) ((IntKind.wrap .i64 (y65_L3 + 1))) φ
    else
      φ ((bstr y8_L3)))) : L3 x0 x1 y8_L3 y65_L3 φ :=
 mIn <|
 mAsk 2 h dT dF (fun h =>
 mIx 4 eS h fun a11 h12 h =>
 h.elim fun h13 h =>
 mCalP 5 (show Ret env 69 [.bld 80 5 y8_L3, .lit (.string x1)] (.tup [.lit (.int .i64 ((bsize x1))), .lit .nilIface]) [.bld 80 5 ((y8_L3 ++ x1.data.toList))] from ret_write (by kernel_rfl) h13) <|
 h.elim fun h14 h =>
 mCalP 3 (show Ret env 69 [.bld 80 5 ((y8_L3 ++ x1.data.toList)), .lit (.string a11)] (.tup [.lit (.int .i64 ((bsize a11))), .lit .nilIface]) [.bld 80 5 (((y8_L3 ++ x1.data.toList) ++ a11.data.toList))] from ret_write (by kernel_rfl) h14) <|
 mFin 5 h) fun h =>
 mCalP 4 (show Ret env 70 [.bld 80 5 y8_L3] (.lit (.string ((bstr y8_L3)))) [.box [.undef, .undef]] from ret_string (by kernel_rfl)) <|
 mRet 2 h
theorem enter (x0 : List ByteArray) (x1 : ByteArray) (φ : ByteArray → Prop) (h :
    (if (x0.length : Int) = 0 then
      φ ((⟨#[]⟩ : ByteArray))
    else
      (if (x0.length : Int) = 1 then
        ∃ a1, lget x0 0 = some a1 ∧
        φ a1
      else
        (if 0 < (bsize x1) then
          ¬ (IntKind.wrap .i64 ((x0.length : Int) - 1)) = 0 ∧
          (if (IntKind.wrap .i64 (Int.tdiv 9223372036854775807 (IntKind.wrap .i64 ((x0.length : Int) - 1)))) ≤ (bsize x1) then
            False
          else
            strings_Join.L2 x0 x1 ((IntKind.wrap .i64 (0 + (IntKind.wrap .i64 ((bsize x1) * (IntKind.wrap .i64 ((x0.length : Int) - 1))))))) φ)
        else
          strings_Join.L2 x0 x1 0 φ)))) : ∃ r, φ r ∧ C x0 x1 r :=
 mEnt (fd := Tryd.f49) (body := B) (V := W) (res := res) <|
 mLen 5 eS x0 <|
 mCon 5 h beq_t beq_f (fun h =>
 mRet 3 h) fun h =>
 mCon 4 h beq_t beq_f (fun h =>
 mIx 2 eS h fun a1 h2 h =>
 mRet 3 h) fun h =>
 mAsk 7 h dT dF (fun h =>
 mLen 6 eS x0 <|
 h.elim fun h3 h =>
 mBi 1 (bin_quo (t := 3) (q := .i64) (i1 := 9223372036854775807) h3) <|
 mAsk 0 h dT dF (fun h =>
 h.elim) fun h =>
 mLen 8 eS x0 <|
 mFin 5 h) fun h =>
 mFin 3 h
end strings_Join
end Go.Own

namespace Go.Own
open Go.Proofs D
set_option maxRecDepth 100000
set_option maxHeartbeats 4000000
namespace attrset_Names
noncomputable def B : Code := (Tryd.f22.body).getD .skip
def W : List Nat := [0, 1, 4, 5, 6, 7, 9, 13, 16, 17, 18, 19, 25]
def res (r : ByteArray × Int) : D × List D := (.tup [.lit (.string r.1), .lit (.int .i64 r.2)], [])
def C (x0 : Int) (x1 : List ByteArray) (r : ByteArray × Int) : Prop := Ret env 22 [.lit (.int .u32 x0), .sl (x1.map eS)] (res r).1 (res r).2
def L1 (x1 : List ByteArray) (y7_L1 : List ByteArray) (r2 : List Int) (y18_L1 : Int) (φ : ByteArray × Int → Prop) : Prop := Pt env 22 W B [1, 1, 1, 0, 1, 0] [(1, .sl (x1.map eS)), (7, .own (y7_L1.map eS)), (16, .own (r2.map (eI .i64))), (17, .lit (.int .i64 ((r2.length : Int)))), (18, .lit (.int .i64 y18_L1))] (Lv env 22 Tryd.f22 2 res φ)
theorem L1_step (x1 : List ByteArray) (y7_L1 : List ByteArray) (r2 : List Int) (y18_L1 : Int) (φ : ByteArray × Int → Prop) (h :
    (if y18_L1 < (r2.length : Int) then
      ∃ a3, lget r2 y18_L1 = some a3 ∧
      (if (x1.length : Int) ≤ a3 then
        φ (((⟨#[]⟩ : ByteArray), 6))
      else
        ∃ a5, lget x1 a3 = some a5 ∧
        (y7_L1.length + 1) * 16 ≤ 140737488355328 ∧
        attrset_Names.L1 x1 ((y7_L1 ++ [a5])) r2 ((IntKind.wrap .i64 (y18_L1 + 1))) φ)
    else
      ∃ r8 : ByteArray, strings_Join.C y7_L1 ((⟨#[32]⟩ : ByteArray)) r8 ∧
      φ ((r8, 0)))) : L1 x1 y7_L1 r2 y18_L1 φ :=
 mIn <|
 mAsk 2 h dT dF (fun h =>
 mIy 4 (eI .i64) h fun a3 h4 h =>
 mLd 0 (eI .i64) h4 <|
 mLen 5 eS x1 <|
 mAsk 0 h dT dF (fun h =>
 mRet 6 h) fun h =>
 mIx 7 eS h fun a5 h6 h =>
 mApp 2 eS y7_L1 ([a5]) h fun h =>
 mFin 6 h) fun h =>
 mCal 5 h (fun _ h => h) (hr := by exact (pr_snap (snap_ow (s := 7) (ps := []) (l := y7_L1) (e := eS) (e' := eS) (fun _ => rfl) (by kernel_rfl)) (pr_k pr_nil))) fun r8 _ h =>
 mRet 3 h
theorem enter (x0 : Int) (x1 : List ByteArray) (φ : ByteArray × Int → Prop) (h :
    ∃ r1 : Int, attrset_checked.C x1 r1 ∧
    (if r1 = 0 then
      ∃ r2 : List Int, attrset_Members.C x0 r2 ∧
      attrset_Names.L1 x1 ([]) r2 0 φ
    else
      φ (((⟨#[]⟩ : ByteArray), r1)))) : ∃ r, φ r ∧ C x0 x1 r :=
 mEnt (fd := Tryd.f22) (body := B) (V := W) (res := res) <|
 mCal 6 h (fun _ h => h) fun r1 _ h =>
 mAskN 4 h bne_t bne_f (fun h =>
 mRet 7 h) fun h =>
 mCal 8 h (fun _ h => h) (hf := (fun _ => clF_flat (flat_ow (e := (eI .i64)) (fun _ => rfl)) rfl)) fun r2 _ h =>
 mLen 0 (eI .i64) r2 <|
 mFin 2 h
end attrset_Names
end Go.Own

namespace Go.Own
open Go.Proofs D
set_option maxRecDepth 100000
set_option maxHeartbeats 4000000
namespace drossref02_Names
noncomputable def B : Code := (Tryd.f42.body).getD .skip
def W : List Nat := [0, 1, 4, 5, 6, 7, 8, 9, 13, 20, 29, 31]
def res (r : ByteArray × Int) : D × List D := (.tup [.lit (.string r.1), .lit (.int .i64 r.2)], [])
def C (x0 : Int) (x1 : List ByteArray) (r : ByteArray × Int) : Prop := Ret env 42 [.lit (.int .u32 x0), .sl (x1.map eS)] (res r).1 (res r).2
def L1 (x1 : List ByteArray) (y7_L1 : ByteArray) (r2 : List Int) (y9_L1 : Int) (φ : ByteArray × Int → Prop) : Prop := Pt env 42 W B [1, 1, 1, 1, 0, 1, 0] [(1, .sl (x1.map eS)), (7, .lit (.string y7_L1)), (8, .own (r2.map (eI .i64))), (9, .lit (.int .i64 y9_L1))] (Lv env 42 Tryd.f42 2 res φ)
def L2 (x1 : List ByteArray) (y7_L2 : ByteArray) (r2 : List Int) (y9_L1 : Int) (φ : ByteArray × Int → Prop) : Prop := Pt env 42 W B [1, 1, 1, 1, 0, 1, 0, 0, 1, 0, 0, 1, 1] [(1, .sl (x1.map eS)), (7, .lit (.string y7_L2)), (8, .own (r2.map (eI .i64))), (9, .lit (.int .i64 y9_L1))] (Lv env 42 Tryd.f42 2 res φ)
theorem L1_step (x1 : List ByteArray) (y7_L1 : ByteArray) (r2 : List Int) (y9_L1 : Int) (φ : ByteArray × Int → Prop) (h :
    (if y9_L1 < (r2.length : Int) then
      ∃ a3, lget r2 y9_L1 = some a3 ∧
      (if (x1.length : Int) ≤ a3 then
        φ (((⟨#[]⟩ : ByteArray), 6))
      else
        (if 0 < y9_L1 then
          (y7_L1).size + ((⟨#[32]⟩ : ByteArray)).size ≤ 9223372036854775807 ∧
          drossref02_Names.L2 x1 ((y7_L1 ++ (⟨#[32]⟩ : ByteArray))) r2 y9_L1 φ
        else
          drossref02_Names.L2 x1 y7_L1 r2 y9_L1 φ))
    else
      φ ((y7_L1, 0)))) : L1 x1 y7_L1 r2 y9_L1 φ :=
 mIn <|
 mLen 4 (eI .i64) r2 <|
 mAsk 0 h dT dF (fun h =>
 mIy 6 (eI .i64) h fun a3 h4 h =>
 mLd 0 (eI .i64) h4 <|
 mLen 1 eS x1 <|
 mAsk 0 h dT dF (fun h =>
 mRet 6 h) fun h =>
 mAsk 5 h dT dF (fun h =>
 h.elim fun h5 h =>
 mBi 4 (bin_cat (t := 9) h5) <|
 mFin 2 h) fun h =>
 mFin 3 h) fun h =>
 mRet 8 h
theorem L2_step (x1 : List ByteArray) (y7_L2 : ByteArray) (r2 : List Int) (y9_L1 : Int) (φ : ByteArray × Int → Prop) (h :
    ∃ a6, lget r2 y9_L1 = some a6 ∧
    ∃ a8, lget x1 a6 = some a8 ∧
    (y7_L2).size + (a8).size ≤ 9223372036854775807 ∧
    drossref02_Names.L1 x1 ((y7_L2 ++ a8)) r2 ((IntKind.wrap .i64 (y9_L1 + 1))) φ) : L2 x1 y7_L2 r2 y9_L1 φ :=
 mIn <|
 mIy 5 (eI .i64) h fun a6 h7 h =>
 mLd 0 (eI .i64) h7 <|
 mIx 0 eS h fun a8 h9 h =>
 h.elim fun h10 h =>
 mBi 1 (bin_cat (t := 9) h10) <|
 mFin 7 h
theorem enter (x0 : Int) (x1 : List ByteArray) (φ : ByteArray × Int → Prop) (h :
    ∃ r1 : Int, drossref02_ValidNames.C x1 r1 ∧
    (if r1 = 0 then
      ∃ r2 : List Int, drossref02_Members.C x0 r2 ∧
      drossref02_Names.L1 x1 ((⟨#[]⟩ : ByteArray)) r2 0 φ
    else
      φ (((⟨#[]⟩ : ByteArray), r1)))) : ∃ r, φ r ∧ C x0 x1 r :=
 mEnt (fd := Tryd.f42) (body := B) (V := W) (res := res) <|
 mCal 6 h (fun _ h => h) fun r1 _ h =>
 mAskN 4 h bne_t bne_f (fun h =>
 mRet 7 h) fun h =>
 mCal 8 h (fun _ h => h) (hf := (fun _ => clF_flat (flat_ow (e := (eI .i64)) (fun _ => rfl)) rfl)) fun r2 _ h =>
 mFin 5 h
end drossref02_Names
end Go.Own

namespace Go.Own
open Go.Proofs D
set_option maxRecDepth 100000
set_option maxHeartbeats 4000000
namespace drosslaw02_awake
noncomputable def B : Code := (Tryd.f12.body).getD .skip
def W : List Nat := [0, 1, 2, 3, 4, 5, 6, 7, 8, 9, 10, 11, 12]
def res (r : Bool) : D × List D := (.lit (.bool r), [])
def C  (r : Bool) : Prop := Ret env 12 [] (res r).1 (res r).2
end drosslaw02_awake
end Go.Own

namespace Go.Own
set_option maxRecDepth 1000000
theorem drosslaw02_awake.run : callN env 400 12 [] = some (.lit (.bool true), []) := by kernel_rfl
theorem drosslaw02_awake.spec : drosslaw02_awake.C true := Ret.of drosslaw02_awake.run
end Go.Own

namespace Go.Own
open Go.Proofs D
set_option maxRecDepth 100000
set_option maxHeartbeats 4000000
namespace drosslaw02_AttrsetRestored
noncomputable def B : Code := (Tryd.f4.body).getD .skip
def W : List Nat := [0, 1, 4, 5, 6, 7, 8, 9, 10, 17, 33, 43]
def res (r : Bool) : D × List D := (.lit (.bool r), [])
def C (x0 : Int) (x1 : List ByteArray) (r : Bool) : Prop := Ret env 4 [.lit (.int .u16 x0), .sl (x1.map eS)] (res r).1 (res r).2
def L1  (φ : Bool → Prop) : Prop := Pt env 4 W B [1, 0, 1, 0, 0] [] (Lv env 4 Tryd.f4 2 res φ)
theorem L1_step  (φ : Bool → Prop) (h :
    ∃ r16 : Bool, drosslaw02_awake.C  r16 ∧
    φ r16) : L1  φ :=
 mIn <|
 mCal 1 h (fun _ h => h) fun r16 _ h =>
 mRet 2 h
theorem enter (x0 : Int) (x1 : List ByteArray) (φ : Bool → Prop) (h :
    ∃ r9 : Bool, drosslaw02_awake.C  r9 ∧
    (if r9 = true then
      ∃ r10 : Bool, drossref02_Few.C ((⟨#[]⟩ : ByteArray)) x1 r10 ∧
      (if r10 = true then
        ∃ r11 : List Int, attrset_Members.C ((IntKind.wrap .u32 x0)) r11 ∧
        ∃ r12 : Int × Int, attrset_Of.C r11 r12 ∧
        (if r12.2 = 0 then
          (if r12.1 = (IntKind.wrap .u32 x0) then
            x1.length * 16 ≤ 140737488355328 ∧
            ∃ r14 : ByteArray × Int, attrset_Names.C ((IntKind.wrap .u32 x0)) x1 r14 ∧
            (if r14.2 = 0 then
              ∃ r15 : Int × Int, attrset_Named.C r14.1 x1 r15 ∧
              (if r15.2 = 0 then
                φ ((r15.1 == (IntKind.wrap .u32 x0)))
              else
                φ false)
            else
              φ ((r14.1.toList == ((⟨#[]⟩ : ByteArray)).toList)))
          else
            φ false)
        else
          φ false)
      else
        drosslaw02_AttrsetRestored.L1  φ)
    else
      drosslaw02_AttrsetRestored.L1  φ)) : ∃ r, φ r ∧ C x0 x1 r :=
 mEnt (fd := Tryd.f4) (body := B) (V := W) (res := res) <|
 mCalB 4 h (fun _ h => h) (fun _ h =>
 mCalB 3 h (fun _ h => h) (fun _ h =>
 mCal 8 h (fun _ h => h) (hf := (fun _ => clF_flat (flat_ow (e := (eI .i64)) (fun _ => rfl)) rfl)) fun r11 _ h =>
 mCal 0 h (fun _ h => h) (hr := by exact (pr_snap (snap_ow (s := 22) (ps := []) (l := r11) (e := (eI .i64)) (e' := (eI .i64)) (fun _ => rfl) (by kernel_rfl)) pr_nil)) (hf := (fun _ => clF_flat (flat_tup (flts_cons rfl (flts_cons rfl flts_nil))) rfl)) fun r12 _ h =>
 mAskN 8 h bne_t bne_f (fun h =>
 mRet 11 h) fun h =>
 mAskN 4 h bne_t bne_f (fun h =>
 mRet 6 h) fun h =>
 h.elim fun h13 h =>
 mCalP 8 (show Ret env 23 [.sl (x1.map eS)] (.own (x1.map eS)) [] from ret_clone (k := 1) (b := 16) (e := eS) (l := x1) (by kernel_rfl) (fun _ => rfl) h13) (hf := (clF_flat (flat_ow (e := eS) (fun _ => rfl)) rfl)) <|
 mCal 0 h (fun _ h => h) (hr := by exact (pr_k (pr_snap (snap_ow (s := 38) (ps := []) (l := x1) (e := eS) (e' := eS) (fun _ => rfl) (by kernel_rfl)) pr_nil))) (hf := (fun _ => clF_flat (flat_tup (flts_cons rfl (flts_cons rfl flts_nil))) rfl)) fun r14 _ h =>
 mAskN 8 h bne_t bne_f (fun h =>
 mRet 7 h) fun h =>
 mCal 6 h (fun _ h => h) (hf := (fun _ => clF_flat (flat_tup (flts_cons rfl (flts_cons rfl flts_nil))) rfl)) fun r15 _ h =>
 mAsk 8 h beq_t beq_f (fun h =>
 mRet 8 h) fun h =>
 mRet 8 h) fun _ h =>
 mFin 4 h) fun _ h =>
 mFin 8 h
end drosslaw02_AttrsetRestored
end Go.Own
