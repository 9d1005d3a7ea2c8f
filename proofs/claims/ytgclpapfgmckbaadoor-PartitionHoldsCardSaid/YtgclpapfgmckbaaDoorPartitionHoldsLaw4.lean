/- What the functions that the law reaches answer. No conditions. -/
import Derived.Test.YtgclpapfgmckbaaDoorBase6
import Derived.Test.YtgclpapfgmckbaaDoorOwn15
import Derived.Test.YtgclpapfgmckbaaDoorBase2
import Derived.Test.YtgclpapfgmckbaaDoorOwn20
import Derived.Test.YtgclpapfgmckbaaDoorOwn21
set_option linter.all false

namespace Go.Own
open Go.Proofs D
set_option maxRecDepth 100000
set_option maxHeartbeats 4000000
namespace slices_Index_sstring_string
noncomputable def B : Code := (Tryd.f68.body).getD .skip
def W : List Nat := [0, 1, 4, 5, 7, 8, 9, 16]
def res (r : Int) : D × List D := (.lit (.int .i64 r), [])
def C (x0 : List ByteArray) (x1 : ByteArray) (r : Int) : Prop := Ret env 68 [.sl (x0.map eS), .lit (.string x1)] (res r).1 (res r).2
def L1 (x0 : List ByteArray) (x1 : ByteArray) (y8_L1 : Int) (φ : Int → Prop) : Prop := Pt env 68 W B [1, 0, 1, 0] [(0, .sl (x0.map eS)), (1, .lit (.string x1)), (7, .lit (.int .i64 ((x0.length : Int)))), (8, .lit (.int .i64 y8_L1))] (Lv env 68 Tryd.f68 2 res φ)
theorem L1_step (x0 : List ByteArray) (x1 : ByteArray) (y8_L1 : Int) (φ : Int → Prop) (h :
    (if y8_L1 < (x0.length : Int) then
      ∃ a1, lget x0 y8_L1 = some a1 ∧
      (if x1.toList = a1.toList then
        φ y8_L1
      else
        slices_Index_sstring_string.L1 x0 x1 ((IntKind.wrap .i64 (y8_L1 + 1))) φ)
    else
      φ ((-1)))) : L1 x0 x1 y8_L1 φ :=
 mIn <|
 mAsk 2 h dT dF (fun h =>
 mIx 11 eS h fun a1 h2 h =>
 mAsk 1 h seq_t seq_f (fun h =>
 mRet 6 h) fun h =>
 mFin 7 h) fun h =>
 mRet 6 h
theorem enter (x0 : List ByteArray) (x1 : ByteArray) (φ : Int → Prop) (h :
    slices_Index_sstring_string.L1 x0 x1 0 φ) : ∃ r, φ r ∧ C x0 x1 r :=
 mEnt (fd := Tryd.f68) (body := B) (V := W) (res := res) <|
 mLen 5 eS x0 <|
 mFin 2 h
end slices_Index_sstring_string
end Go.Own

namespace Go.Own
open Go.Proofs D
set_option maxRecDepth 100000
set_option maxHeartbeats 4000000
namespace slices_Contains_sstring_string
noncomputable def B : Code := (Tryd.f51.body).getD .skip
def W : List Nat := [0, 1, 4]
def res (r : Bool) : D × List D := (.lit (.bool r), [])
def C (x0 : List ByteArray) (x1 : ByteArray) (r : Bool) : Prop := Ret env 51 [.sl (x0.map eS), .lit (.string x1)] (res r).1 (res r).2
theorem enter (x0 : List ByteArray) (x1 : ByteArray) (φ : Bool → Prop) (h :
    ∃ r1 : Int, slices_Index_sstring_string.C x0 x1 r1 ∧
    φ ((decide (0 ≤ r1)))) : ∃ r, φ r ∧ C x0 x1 r :=
 mEnt (fd := Tryd.f51) (body := B) (V := W) (res := res) <|
 mCal 6 h (fun _ h => h) fun r1 _ h =>
 mRet 3 h
end slices_Contains_sstring_string
end Go.Own

namespace Go.Own
open Go.Proofs D
set_option maxRecDepth 100000
set_option maxHeartbeats 4000000
namespace table_isName
noncomputable def B : Code := (Tryd.f50.body).getD .skip
def W : List Nat := [0, 2, 3, 4, 5, 16, 18, 19, 20, 56]
def res (r : Bool) : D × List D := (.lit (.bool r), [])
def C (x0 : ByteArray) (r : Bool) : Prop := Ret env 50 [.lit (.string x0)] (res r).1 (res r).2
def L1 (x0 : ByteArray) (y19_L1 : Int) (φ : Bool → Prop) : Prop := Pt env 50 W B [1, 1, 0, 1, 0] [(0, .lit (.string x0)), (18, .lit (.int .i64 ((bsize x0)))), (19, .lit (.int .i64 y19_L1))] (Lv env 50 Tryd.f50 1 res φ)
def L2 (x0 : ByteArray) (y19_L1 : Int) (y4_L2 : Int) (y5_L2 : Bool) (φ : Bool → Prop) : Prop := Pt env 50 W B [1, 1, 0, 1, 0, 0, 1, 1, 0, 0, 1, 1, 1, 0] [(0, .lit (.string x0)), (3, .lit (.int .i64 y19_L1)), (4, .lit (.int .u8 y4_L2)), (5, .lit (.bool y5_L2)), (18, .lit (.int .i64 ((bsize x0)))), (19, .lit (.int .i64 y19_L1))] (Lv env 50 Tryd.f50 1 res φ)
def L3 (x0 : ByteArray) (y19_L1 : Int) (φ : Bool → Prop) : Prop := Pt env 50 W B [1, 1, 0, 1, 0, 0, 1, 1, 1] [(0, .lit (.string x0)), (18, .lit (.int .i64 ((bsize x0)))), (19, .lit (.int .i64 y19_L1))] (Lv env 50 Tryd.f50 1 res φ)
theorem L1_step (x0 : ByteArray) (y19_L1 : Int) (φ : Bool → Prop) (h :
    (if y19_L1 < (bsize x0) then
      ∃ b1, ((0 : Int) ≤ y19_L1 ∧ x0[(y19_L1).toNat]? = some b1) ∧
      (if 97 ≤ (u8i b1) then
        (if (u8i b1) ≤ 122 then
          table_isName.L2 x0 y19_L1 ((u8i b1)) true φ
        else
          (if 65 ≤ (u8i b1) then
            (if (u8i b1) ≤ 90 then
              table_isName.L2 x0 y19_L1 ((u8i b1)) true φ
            else
              table_isName.L2 x0 y19_L1 ((u8i b1)) (((u8i b1) == 95)) φ)
          else
            table_isName.L2 x0 y19_L1 ((u8i b1)) (((u8i b1) == 95)) φ))
      else
        (if 65 ≤ (u8i b1) then
          (if (u8i b1) ≤ 90 then
            table_isName.L2 x0 y19_L1 ((u8i b1)) true φ
          else
            table_isName.L2 x0 y19_L1 ((u8i b1)) (((u8i b1) == 95)) φ)
        else
          table_isName.L2 x0 y19_L1 ((u8i b1)) (((u8i b1) == 95)) φ))
    else
      φ true)) : L1 x0 y19_L1 φ :=
 mIn <|
 mAsk 2 h dT dF (fun h =>
 mSt 10 h fun b1 h =>
 mAsk 4 h dT dF (fun h =>
 mAsk 2 h dT dF (fun h =>
 mFin 15 h) fun h =>
 mAsk 3 h dT dF (fun h =>
 mAsk 2 h dT dF (fun h =>
 mFin 8 h) fun h =>
 mFin 8 h) fun h =>
 mFin 11 h) fun h =>
 mAsk 6 h dT dF (fun h =>
 mAsk 2 h dT dF (fun h =>
 mFin 8 h) fun h =>
 mFin 8 h) fun h =>
 mFin 11 h) fun h =>
 mRet 6 h
theorem L2_step (x0 : ByteArray) (y19_L1 : Int) (y4_L2 : Int) (y5_L2 : Bool) (φ : Bool → Prop) (h :
    (if y5_L2 = true then
      table_isName.L3 x0 y19_L1 φ
    else
      (if y19_L1 = 0 then
        φ false
      else
        (if y4_L2 < 48 then
          φ false
        else
          (if 57 < y4_L2 then
            φ false
          else
            table_isName.L3 x0 y19_L1 φ))))) : L2 x0 y19_L1 y4_L2 y5_L2 φ :=
 mIn <|
 mAsk 1 h id fls (fun h =>
 mFin 16 h) fun h =>
 mAsk 3 h beq_t beq_f (fun h =>
 mRet 14 h) fun h =>
 mAsk 2 h dT dF (fun h =>
 mRet 11 h) fun h =>
 mAsk 3 h dT dF (fun h =>
 mRet 7 h) fun h =>
 mFin 5 h
theorem L3_step (x0 : ByteArray) (y19_L1 : Int) (φ : Bool → Prop) (h :
    table_isName.L1 x0 ((IntKind.wrap .i64 (y19_L1 + 1))) φ) : L3 x0 y19_L1 φ :=
 mIn <|
 mFin 4 h
theorem enter (x0 : ByteArray) (φ : Bool → Prop) (h :
    (if x0.toList = ((⟨#[]⟩ : ByteArray)).toList then
      φ false
    else
      (if 24 < (bsize x0) then
        φ false
      else
        (if x0.toList = ((⟨#[110, 117, 108, 108]⟩ : ByteArray)).toList then
          φ false
        else
          table_isName.L1 x0 0 φ)))) : ∃ r, φ r ∧ C x0 r :=
 mEnt (fd := Tryd.f50) (body := B) (V := W) (res := res) <|
 mAsk 5 h seq_t seq_f (fun h =>
 mRet 14 h) fun h =>
 mAsk 3 h dT dF (fun h =>
 mRet 10 h) fun h =>
 mAsk 3 h seq_t seq_f (fun h =>
 mRet 6 h) fun h =>
 mFin 9 h
end table_isName
end Go.Own

namespace Go.Own
open Go.Proofs D
set_option maxRecDepth 100000
set_option maxHeartbeats 4000000
namespace value_Valid
noncomputable def B : Code := (Tryd.f71.body).getD .skip
def W : List Nat := [0, 1, 2, 4, 5, 15, 20, 31]
def res (r : Bool) : D × List D := (.lit (.bool r), [])
def C (x0 : api_Value) (r : Bool) : Prop := Ret env 71 [.agg [.lit (.int .i64 x0.Kind), .lit (.int .i64 x0.Num), .lit (.string x0.Str)]] (res r).1 (res r).2
theorem enter (x0 : api_Value) (φ : Bool → Prop) (h :
    (if x0.Kind = 0 then
      (if x0.Num = 0 then
        φ ((x0.Str.toList == ((⟨#[]⟩ : ByteArray)).toList))
      else
        φ false)
    else
      (if x0.Kind = 1 then
        φ ((x0.Str.toList == ((⟨#[]⟩ : ByteArray)).toList))
      else
        (if x0.Kind = 2 then
          (if x0.Num = 0 then
            φ ((decide ((bsize x0.Str) ≤ 200)))
          else
            φ false)
        else
          (if x0.Kind = 3 then
            (if 1 ≤ x0.Num then
              φ ((x0.Str.toList == ((⟨#[]⟩ : ByteArray)).toList))
            else
              φ false)
          else
            φ false))))) : ∃ r, φ r ∧ C x0 r :=
 mEnt (fd := Tryd.f71) (body := B) (V := W) (res := res) <|
 mCon 12 h beq_t beq_f (fun h =>
 mAsk 3 h beq_t beq_f (fun h =>
 mRet 7 h) fun h =>
 mRet 7 h) fun h =>
 mCon 4 h beq_t beq_f (fun h =>
 mRet 6 h) fun h =>
 mCon 4 h beq_t beq_f (fun h =>
 mAsk 3 h beq_t beq_f (fun h =>
 mRet 8 h) fun h =>
 mRet 8 h) fun h =>
 mCon 4 h beq_t beq_f (fun h =>
 mAsk 3 h dT dF (fun h =>
 mRet 7 h) fun h =>
 mRet 7 h) fun h =>
 mRet 4 h
end value_Valid
end Go.Own

namespace Go.Own
open Go.Proofs D
set_option maxRecDepth 100000
set_option maxHeartbeats 4000000
namespace table_validValues_1
noncomputable def B : Code := (Tryd.f70.body).getD .skip
def W : List Nat := [0, 1, 2]
def res (r : Bool) : D × List D := (.lit (.bool r), [])
def C (x0 : api_Value) (r : Bool) : Prop := Ret env 70 [.agg [.lit (.int .i64 x0.Kind), .lit (.int .i64 x0.Num), .lit (.string x0.Str)]] (res r).1 (res r).2
theorem enter (x0 : api_Value) (φ : Bool → Prop) (h :
    ∃ r1 : Bool, value_Valid.C x0 r1 ∧
    φ ((not r1))) : ∃ r, φ r ∧ C x0 r :=
 mEnt (fd := Tryd.f70) (body := B) (V := W) (res := res) <|
 mCal 6 h (fun _ h => h) fun r1 _ h =>
 mRet 3 h
end table_validValues_1
end Go.Own

namespace Go.Own
open Go.Proofs D
set_option maxRecDepth 100000
set_option maxHeartbeats 4000000
namespace slices_IndexFunc_sapi_Value_api_Value_table_validValues_1
noncomputable def B : Code := (Tryd.f81.body).getD .skip
def W : List Nat := [0, 1, 4, 5, 7, 8, 9, 16]
def res (r : Int) : D × List D := (.lit (.int .i64 r), [])
def C (x0 : List api_Value) (r : Int) : Prop := Ret env 81 [.sl (x0.map enc_api_Value), .fn 70 []] (res r).1 (res r).2
def L1 (x0 : List api_Value) (y8_L1 : Int) (φ : Int → Prop) : Prop := Pt env 81 W B [1, 0, 1, 0] [(0, .sl (x0.map enc_api_Value)), (1, .fn 70 []), (7, .lit (.int .i64 ((x0.length : Int)))), (8, .lit (.int .i64 y8_L1))] (Lv env 81 Tryd.f81 2 res φ)
theorem L1_step (x0 : List api_Value) (y8_L1 : Int) (φ : Int → Prop) (h :
    (if y8_L1 < (x0.length : Int) then
      ∃ a1, lget x0 y8_L1 = some a1 ∧
      ∃ r3 : Bool, table_validValues_1.C a1 r3 ∧
      (if r3 = true then
        φ y8_L1
      else
        slices_IndexFunc_sapi_Value_api_Value_table_validValues_1.L1 x0 ((IntKind.wrap .i64 (y8_L1 + 1))) φ)
    else
      φ ((-1)))) : L1 x0 y8_L1 φ :=
 mIn <|
 mAsk 2 h dT dF (fun h =>
 mIx 11 enc_api_Value h fun a1 h2 h =>
 mCalB 1 h (fun _ h => h) (fun _ h =>
 mRet 6 h) fun _ h =>
 mFin 7 h) fun h =>
 mRet 6 h
theorem enter (x0 : List api_Value) (φ : Int → Prop) (h :
    slices_IndexFunc_sapi_Value_api_Value_table_validValues_1.L1 x0 0 φ) : ∃ r, φ r ∧ C x0 r :=
 mEnt (fd := Tryd.f81) (body := B) (V := W) (res := res) <|
 mLen 5 enc_api_Value x0 <|
 mFin 2 h
end slices_IndexFunc_sapi_Value_api_Value_table_validValues_1
end Go.Own

namespace Go.Own
open Go.Proofs D
set_option maxRecDepth 100000
set_option maxHeartbeats 4000000
namespace slices_ContainsFunc_sapi_Value_api_Value_table_validValues_1
noncomputable def B : Code := (Tryd.f69.body).getD .skip
def W : List Nat := [0, 1, 4]
def res (r : Bool) : D × List D := (.lit (.bool r), [])
def C (x0 : List api_Value) (r : Bool) : Prop := Ret env 69 [.sl (x0.map enc_api_Value), .fn 70 []] (res r).1 (res r).2
theorem enter (x0 : List api_Value) (φ : Bool → Prop) (h :
    ∃ r1 : Int, slices_IndexFunc_sapi_Value_api_Value_table_validValues_1.C x0 r1 ∧
    φ ((decide (0 ≤ r1)))) : ∃ r, φ r ∧ C x0 r :=
 mEnt (fd := Tryd.f69) (body := B) (V := W) (res := res) <|
 mCal 6 h (fun _ h => h) fun r1 _ h =>
 mRet 3 h
end slices_ContainsFunc_sapi_Value_api_Value_table_validValues_1
end Go.Own

namespace Go.Own
open Go.Proofs D
set_option maxRecDepth 100000
set_option maxHeartbeats 4000000
namespace table_validValues
noncomputable def B : Code := (Tryd.f52.body).getD .skip
def W : List Nat := [0, 2]
def res (r : Bool) : D × List D := (.lit (.bool r), [])
def C (x0 : List api_Value) (r : Bool) : Prop := Ret env 52 [.sl (x0.map enc_api_Value)] (res r).1 (res r).2
theorem enter (x0 : List api_Value) (φ : Bool → Prop) (h :
    ∃ r1 : Bool, slices_ContainsFunc_sapi_Value_api_Value_table_validValues_1.C x0 r1 ∧
    φ ((not r1))) : ∃ r, φ r ∧ C x0 r :=
 mEnt (fd := Tryd.f52) (body := B) (V := W) (res := res) <|
 mCal 5 h (fun _ h => h) fun r1 _ h =>
 mRet 3 h
end table_validValues
end Go.Own

namespace Go.Own
open Go.Proofs D
set_option maxRecDepth 100000
set_option maxHeartbeats 4000000
namespace table_Valid
noncomputable def B : Code := (Tryd.f31.body).getD .skip
def W : List Nat := [0, 1, 2, 3, 4, 5, 7, 11, 21, 23, 24, 25, 26, 40, 43, 44, 45, 46, 49, 54, 62]
def res (r : Int) : D × List D := (.lit (.int .i64 r), [])
def C (x0 : api_Table) (r : Int) : Prop := Ret env 31 [.agg [.lit (.string x0.Name), .sl (x0.Attrs.map eS), .sl (x0.Rows.map enc_api_Row)]] (res r).1 (res r).2
def L1 (x0 : api_Table) (y25_L1 : Int) (φ : Int → Prop) : Prop := Pt env 31 W B [1, 1, 1, 0, 1, 0] [(0, .agg [.lit (.string x0.Name), .sl (x0.Attrs.map eS), .sl (x0.Rows.map enc_api_Row)]), (1, .box [.lit (.string x0.Name), .sl (x0.Attrs.map eS), .sl (x0.Rows.map enc_api_Row)]), (23, .sl (x0.Attrs.map eS)), (24, .lit (.int .i64 ((x0.Attrs.length : Int)))), (25, .lit (.int .i64 y25_L1))] (Lv env 31 Tryd.f31 1 res φ)
def L2 (x0 : api_Table) (y5_L2 : Int) (y45_L2 : Int) (φ : Int → Prop) : Prop := Pt env 31 W B [1, 1, 1, 1, 1, 0, 1, 0] [(0, .agg [.lit (.string x0.Name), .sl (x0.Attrs.map eS), .sl (x0.Rows.map enc_api_Row)]), (1, .box [.lit (.string x0.Name), .sl (x0.Attrs.map eS), .sl (x0.Rows.map enc_api_Row)]), (5, .lit (.int .i64 y5_L2)), (43, .sl (x0.Rows.map enc_api_Row)), (44, .lit (.int .i64 ((x0.Rows.length : Int)))), (45, .lit (.int .i64 y45_L2))] (Lv env 31 Tryd.f31 1 res φ)
theorem L1_step (x0 : api_Table) (y25_L1 : Int) (φ : Int → Prop) (h :
    (if y25_L1 < (x0.Attrs.length : Int) then
      ∃ a2, lget x0.Attrs y25_L1 = some a2 ∧
      ∃ r4 : Bool, table_isName.C a2 r4 ∧
      (if r4 = true then
        0 ≤ y25_L1 ∧
        (0 ≤ y25_L1.toNat ∧ y25_L1.toNat ≤ x0.Attrs.length) ∧
        ∃ r7 : Bool, slices_Contains_sstring_string.C ((List.take (y25_L1.toNat - 0) x0.Attrs)) a2 r7 ∧
        (if r7 = true then
          φ 1
        else
          table_Valid.L1 x0 ((IntKind.wrap .i64 (y25_L1 + 1))) φ)
      else
        φ 1)
    else
      table_Valid.L2 x0 0 0 φ)) : L1 x0 y25_L1 φ :=
 mIn <|
 mAsk 2 h dT dF (fun h =>
 mIx 5 eS h fun a2 h3 h =>
 mCalB 6 h (fun _ h => h) (fun _ h =>
 h.elim fun h5 h =>
 h.elim fun h6 h =>
 mVl 5 (val_slice_sl (t := 22) (x := (.tmp 35)) (lo := none) (hi := (some (.tmp 36))) (lo' := none) (hi' := some (y25_L1).toNat) (e := eS) (l := x0.Attrs) (et := 9) (k := 1) (by kernel_rfl) (by kernel_rfl) optNat_none (optNat_some (i := y25_L1) (q := .i64) (by kernel_rfl) h5) (by kernel_rfl) (by kernel_rfl) (fun _ => rfl) (by kernel_rfl) h6.1 h6.2) <|
 mCalB 1 h (fun _ h => h) (fun _ h =>
 mRet 6 h) fun _ h =>
 mFin 8 h) fun _ h =>
 mRet 14 h) fun h =>
 mLen 9 enc_api_Row x0.Rows <|
 mFin 2 h
theorem L2_step (x0 : api_Table) (y5_L2 : Int) (y45_L2 : Int) (φ : Int → Prop) (h :
    (if y45_L2 < (x0.Rows.length : Int) then
      ∃ a8, lget x0.Rows y45_L2 = some a8 ∧
      (if a8.ID ≤ y5_L2 then
        φ 1
      else
        (if (a8.Values.length : Int) = (x0.Attrs.length : Int) then
          ∃ r10 : Bool, table_validValues.C a8.Values r10 ∧
          (if r10 = true then
            table_Valid.L2 x0 a8.ID ((IntKind.wrap .i64 (y45_L2 + 1))) φ
          else
            φ 1)
        else
          φ 6))
    else
      φ 0)) : L2 x0 y5_L2 y45_L2 φ :=
 mIn <|
 mAsk 2 h dT dF (fun h =>
 mIx 4 enc_api_Row h fun a8 h9 h =>
 mCon 11 h dT dF (fun h =>
 mRet 3 h) fun h =>
 mLen 3 enc_api_Value a8.Values <|
 mLen 2 eS x0.Attrs <|
 mConN 3 h bne_t bne_f (fun h =>
 mRet 3 h) fun h =>
 mCal 3 h (fun _ h => h) fun r10 _ h =>
 mConN 3 h (fun h => fls (not_t h)) (fun h => id (not_f h)) (fun h =>
 mRet 3 h) fun h =>
 mFin 10 h) fun h =>
 mRet 6 h
theorem enter (x0 : api_Table) (φ : Int → Prop) (h :
    ∃ r1 : Bool, table_isName.C x0.Name r1 ∧
    (if r1 = true then
      (if 16 < (x0.Attrs.length : Int) then
        φ 3
      else
        (if 1000 < (x0.Rows.length : Int) then
          φ 3
        else
          table_Valid.L1 x0 0 φ))
    else
      φ 1)) : ∃ r, φ r ∧ C x0 r :=
 mEnt (fd := Tryd.f31) (body := B) (V := W) (res := res) <|
 mCalB 7 h (fun _ h => h) (fun _ h =>
 mLen 7 eS x0.Attrs <|
 mAsk 0 h dT dF (fun h =>
 mRet 11 h) fun h =>
 mLen 3 enc_api_Row x0.Rows <|
 mAsk 0 h dT dF (fun h =>
 mRet 6 h) fun h =>
 mLen 7 eS x0.Attrs <|
 mFin 2 h) fun _ h =>
 mRet 6 h
end table_Valid
end Go.Own

namespace Go.Own
open Go.Proofs D
set_option maxRecDepth 100000
set_option maxHeartbeats 4000000
namespace drossref01_Valid
noncomputable def B : Code := (Tryd.f78.body).getD .skip
def W : List Nat := [0, 1, 2, 4, 5, 15, 20]
def res (r : Bool) : D × List D := (.lit (.bool r), [])
def C (x0 : api_Value) (r : Bool) : Prop := Ret env 78 [.agg [.lit (.int .i64 x0.Kind), .lit (.int .i64 x0.Num), .lit (.string x0.Str)]] (res r).1 (res r).2
theorem enter (x0 : api_Value) (φ : Bool → Prop) (h :
    (if x0.Kind = 0 then
      (if x0.Num = 0 then
        φ ((x0.Str.toList == ((⟨#[]⟩ : ByteArray)).toList))
      else
        φ false)
    else
      (if x0.Kind = 1 then
        φ ((x0.Str.toList == ((⟨#[]⟩ : ByteArray)).toList))
      else
        (if x0.Kind = 2 then
          (if x0.Num = 0 then
            φ ((decide ((bsize x0.Str) ≤ 200)))
          else
            φ false)
        else
          (if x0.Kind = 3 then
            (if 1 ≤ x0.Num then
              φ ((x0.Str.toList == ((⟨#[]⟩ : ByteArray)).toList))
            else
              φ false)
          else
            φ false))))) : ∃ r, φ r ∧ C x0 r :=
 mEnt (fd := Tryd.f78) (body := B) (V := W) (res := res) <|
 mCon 12 h beq_t beq_f (fun h =>
 mAsk 3 h beq_t beq_f (fun h =>
 mRet 7 h) fun h =>
 mRet 7 h) fun h =>
 mCon 4 h beq_t beq_f (fun h =>
 mRet 6 h) fun h =>
 mCon 4 h beq_t beq_f (fun h =>
 mAsk 3 h beq_t beq_f (fun h =>
 mRet 8 h) fun h =>
 mRet 8 h) fun h =>
 mAsk 4 h beq_t beq_f (fun h =>
 mAsk 3 h dT dF (fun h =>
 mRet 8 h) fun h =>
 mRet 8 h) fun h =>
 mRet 12 h
end drossref01_Valid
end Go.Own

namespace Go.Own
open Go.Proofs D
set_option maxRecDepth 100000
set_option maxHeartbeats 4000000
namespace drossref01_Valids
noncomputable def B : Code := (Tryd.f60.body).getD .skip
def W : List Nat := [0, 2, 3, 7, 15]
def res (r : Bool) : D × List D := (.lit (.bool r), [])
def C (x0 : List api_Value) (r : Bool) : Prop := Ret env 60 [.sl (x0.map enc_api_Value)] (res r).1 (res r).2
def L1 (x0 : List api_Value) (y3_L1 : Int) (φ : Bool → Prop) : Prop := Pt env 60 W B [1, 0, 1, 0] [(0, .sl (x0.map enc_api_Value)), (3, .lit (.int .i64 y3_L1))] (Lv env 60 Tryd.f60 1 res φ)
theorem L1_step (x0 : List api_Value) (y3_L1 : Int) (φ : Bool → Prop) (h :
    (if y3_L1 < (x0.length : Int) then
      ∃ a1, lget x0 y3_L1 = some a1 ∧
      ∃ r3 : Bool, drossref01_Valid.C a1 r3 ∧
      (if r3 = true then
        drossref01_Valids.L1 x0 ((IntKind.wrap .i64 (y3_L1 + 1))) φ
      else
        φ false)
    else
      φ true)) : L1 x0 y3_L1 φ :=
 mIn <|
 mLen 4 enc_api_Value x0 <|
 mAsk 0 h dT dF (fun h =>
 mIx 6 enc_api_Value h fun a1 h2 h =>
 mCalB 1 h (fun _ h => h) (fun _ h =>
 mFin 9 h) fun _ h =>
 mRet 6 h) fun h =>
 mRet 6 h
theorem enter (x0 : List api_Value) (φ : Bool → Prop) (h :
    drossref01_Valids.L1 x0 0 φ) : ∃ r, φ r ∧ C x0 r :=
 mEnt (fd := Tryd.f60) (body := B) (V := W) (res := res) <|
 mFin 6 h
end drossref01_Valids
end Go.Own

namespace Go.Own
open Go.Proofs D
set_option maxRecDepth 100000
set_option maxHeartbeats 4000000
namespace drossref03_letter
noncomputable def B : Code := (Tryd.f76.body).getD .skip
def W : List Nat := [0, 2]
def res (r : Bool) : D × List D := (.lit (.bool r), [])
def C (x0 : Int) (r : Bool) : Prop := Ret env 76 [.lit (.int .u8 x0)] (res r).1 (res r).2
theorem enter (x0 : Int) (φ : Bool → Prop) (h :
    (if 97 ≤ x0 then
      (if x0 ≤ 122 then
        φ true
      else
        (if 65 ≤ x0 then
          (if x0 ≤ 90 then
            φ true
          else
            φ ((x0 == 95)))
        else
          φ ((x0 == 95))))
    else
      (if 65 ≤ x0 then
        (if x0 ≤ 90 then
          φ true
        else
          φ ((x0 == 95)))
      else
        φ ((x0 == 95))))) : ∃ r, φ r ∧ C x0 r :=
 mEnt (fd := Tryd.f76) (body := B) (V := W) (res := res) <|
 mAsk 5 h dT dF (fun h =>
 mAsk 2 h dT dF (fun h =>
 mRet 15 h) fun h =>
 mAsk 3 h dT dF (fun h =>
 mAsk 2 h dT dF (fun h =>
 mRet 8 h) fun h =>
 mRet 8 h) fun h =>
 mRet 11 h) fun h =>
 mAsk 6 h dT dF (fun h =>
 mAsk 2 h dT dF (fun h =>
 mRet 8 h) fun h =>
 mRet 8 h) fun h =>
 mRet 11 h
end drossref03_letter
end Go.Own

namespace Go.Own
open Go.Proofs D
set_option maxRecDepth 100000
set_option maxHeartbeats 4000000
namespace drossref03_Name
noncomputable def B : Code := (Tryd.f58.body).getD .skip
def W : List Nat := [0, 2, 3, 21, 25, 44]
def res (r : Bool) : D × List D := (.lit (.bool r), [])
def C (x0 : ByteArray) (r : Bool) : Prop := Ret env 58 [.lit (.string x0)] (res r).1 (res r).2
def L1 (x0 : ByteArray) (y3_L1 : Int) (φ : Bool → Prop) : Prop := Pt env 58 W B [1, 1, 0, 1, 0] [(0, .lit (.string x0)), (3, .lit (.int .i64 y3_L1))] (Lv env 58 Tryd.f58 1 res φ)
def L2 (x0 : ByteArray) (y3_L1 : Int) (φ : Bool → Prop) : Prop := Pt env 58 W B [1, 1, 0, 1, 0, 0, 1, 1] [(0, .lit (.string x0)), (3, .lit (.int .i64 y3_L1))] (Lv env 58 Tryd.f58 1 res φ)
theorem L1_step (x0 : ByteArray) (y3_L1 : Int) (φ : Bool → Prop) (h :
    (if y3_L1 < (bsize x0) then
      ∃ b5, ((0 : Int) ≤ y3_L1 ∧ x0[(y3_L1).toNat]? = some b5) ∧
      ∃ r8 : Bool, drossref03_letter.C ((u8i b5)) r8 ∧
      (if r8 = true then
        drossref03_Name.L2 x0 y3_L1 φ
      else
        ∃ b9, ((0 : Int) ≤ y3_L1 ∧ x0[(y3_L1).toNat]? = some b9) ∧
        (if (u8i b9) < 48 then
          φ false
        else
          ∃ b12, ((0 : Int) ≤ y3_L1 ∧ x0[(y3_L1).toNat]? = some b12) ∧
          (if 57 < (u8i b12) then
            φ false
          else
            drossref03_Name.L2 x0 y3_L1 φ)))
    else
      φ true)) : L1 x0 y3_L1 φ :=
 mIn <|
 mAsk 5 h dT dF (fun h =>
 mSt 6 h fun b5 h =>
 mCalB 0 h (fun _ h => h) (fun _ h =>
 mFin 16 h) fun _ h =>
 mSt 4 h fun b9 h =>
 mAsk 0 h dT dF (fun h =>
 mRet 12 h) fun h =>
 mSt 3 h fun b12 h =>
 mAsk 0 h dT dF (fun h =>
 mRet 7 h) fun h =>
 mFin 5 h) fun h =>
 mRet 6 h
theorem L2_step (x0 : ByteArray) (y3_L1 : Int) (φ : Bool → Prop) (h :
    drossref03_Name.L1 x0 ((IntKind.wrap .i64 (y3_L1 + 1))) φ) : L2 x0 y3_L1 φ :=
 mIn <|
 mFin 5 h
theorem enter (x0 : ByteArray) (φ : Bool → Prop) (h :
    (if (bsize x0) = 0 then
      φ false
    else
      (if 24 < (bsize x0) then
        φ false
      else
        ∃ b1, ((0 : Int) ≤ 0 ∧ x0[((0 : Int)).toNat]? = some b1) ∧
        ∃ r4 : Bool, drossref03_letter.C ((u8i b1)) r4 ∧
        (if r4 = true then
          (if x0.toList = ((⟨#[110, 117, 108, 108]⟩ : ByteArray)).toList then
            φ false
          else
            drossref03_Name.L1 x0 0 φ)
        else
          φ false)))) : ∃ r, φ r ∧ C x0 r :=
 mEnt (fd := Tryd.f58) (body := B) (V := W) (res := res) <|
 mAsk 6 h beq_t beq_f (fun h =>
 mRet 20 h) fun h =>
 mAsk 3 h dT dF (fun h =>
 mRet 16 h) fun h =>
 mSt 3 h fun b1 h =>
 mCalB 0 h (fun _ h => h) (fun _ h =>
 mAsk 4 h seq_t seq_f (fun h =>
 mRet 6 h) fun h =>
 mFin 7 h) fun _ h =>
 mRet 11 h
end drossref03_Name
end Go.Own

namespace Go.Own
open Go.Proofs D
set_option maxRecDepth 100000
set_option maxHeartbeats 4000000
namespace drossref03_Attr
noncomputable def B : Code := (Tryd.f77.body).getD .skip
def W : List Nat := [0, 1, 4, 5, 9, 17]
def res (r : Int) : D × List D := (.lit (.int .i64 r), [])
def C (x0 : List ByteArray) (x1 : ByteArray) (r : Int) : Prop := Ret env 77 [.sl (x0.map eS), .lit (.string x1)] (res r).1 (res r).2
def L1 (x0 : List ByteArray) (x1 : ByteArray) (y5_L1 : Int) (φ : Int → Prop) : Prop := Pt env 77 W B [1, 0, 1, 0] [(0, .sl (x0.map eS)), (1, .lit (.string x1)), (5, .lit (.int .i64 y5_L1))] (Lv env 77 Tryd.f77 2 res φ)
theorem L1_step (x0 : List ByteArray) (x1 : ByteArray) (y5_L1 : Int) (φ : Int → Prop) (h :
    (if y5_L1 < (x0.length : Int) then
      ∃ a1, lget x0 y5_L1 = some a1 ∧
      (if a1.toList = x1.toList then
        φ y5_L1
      else
        drossref03_Attr.L1 x0 x1 ((IntKind.wrap .i64 (y5_L1 + 1))) φ)
    else
      φ ((-1)))) : L1 x0 x1 y5_L1 φ :=
 mIn <|
 mLen 4 eS x0 <|
 mAsk 0 h dT dF (fun h =>
 mIx 6 eS h fun a1 h2 h =>
 mAsk 2 h seq_t seq_f (fun h =>
 mRet 6 h) fun h =>
 mFin 8 h) fun h =>
 mRet 6 h
theorem enter (x0 : List ByteArray) (x1 : ByteArray) (φ : Int → Prop) (h :
    drossref03_Attr.L1 x0 x1 0 φ) : ∃ r, φ r ∧ C x0 x1 r :=
 mEnt (fd := Tryd.f77) (body := B) (V := W) (res := res) <|
 mFin 6 h
end drossref03_Attr
end Go.Own

namespace Go.Own
open Go.Proofs D
set_option maxRecDepth 100000
set_option maxHeartbeats 4000000
namespace drossref03_Names
noncomputable def B : Code := (Tryd.f59.body).getD .skip
def W : List Nat := [0, 2, 3, 7, 26]
def res (r : Bool) : D × List D := (.lit (.bool r), [])
def C (x0 : List ByteArray) (r : Bool) : Prop := Ret env 59 [.sl (x0.map eS)] (res r).1 (res r).2
def L1 (x0 : List ByteArray) (y3_L1 : Int) (φ : Bool → Prop) : Prop := Pt env 59 W B [1, 0, 1, 0] [(0, .sl (x0.map eS)), (3, .lit (.int .i64 y3_L1))] (Lv env 59 Tryd.f59 1 res φ)
theorem L1_step (x0 : List ByteArray) (y3_L1 : Int) (φ : Bool → Prop) (h :
    (if y3_L1 < (x0.length : Int) then
      ∃ a1, lget x0 y3_L1 = some a1 ∧
      ∃ r3 : Bool, drossref03_Name.C a1 r3 ∧
      (if r3 = true then
        0 ≤ y3_L1 ∧
        (0 ≤ y3_L1.toNat ∧ y3_L1.toNat ≤ x0.length) ∧
        ∃ r6 : Int, drossref03_Attr.C ((List.take (y3_L1.toNat - 0) x0)) a1 r6 ∧
        (if 0 ≤ r6 then
          φ false
        else
          drossref03_Names.L1 x0 ((IntKind.wrap .i64 (y3_L1 + 1))) φ)
      else
        φ false)
    else
      φ true)) : L1 x0 y3_L1 φ :=
 mIn <|
 mLen 4 eS x0 <|
 mAsk 0 h dT dF (fun h =>
 mIx 6 eS h fun a1 h2 h =>
 mCalB 1 h (fun _ h => h) (fun _ h =>
 h.elim fun h4 h =>
 h.elim fun h5 h =>
 mVl 4 (val_slice_sl (t := 22) (x := (.tmp 17)) (lo := none) (hi := (some (.tmp 18))) (lo' := none) (hi' := some (y3_L1).toNat) (e := eS) (l := x0) (et := 9) (k := 1) (by kernel_rfl) (by kernel_rfl) optNat_none (optNat_some (i := y3_L1) (q := .i64) (by kernel_rfl) h4) (by kernel_rfl) (by kernel_rfl) (fun _ => rfl) (by kernel_rfl) h5.1 h5.2) <|
 mIxf 2 eS h2 <|
 mCal 1 h (fun _ h => h) fun r6 _ h =>
 mAsk 0 h dT dF (fun h =>
 mRet 6 h) fun h =>
 mFin 9 h) fun _ h =>
 mRet 17 h) fun h =>
 mRet 6 h
theorem enter (x0 : List ByteArray) (φ : Bool → Prop) (h :
    drossref03_Names.L1 x0 0 φ) : ∃ r, φ r ∧ C x0 r :=
 mEnt (fd := Tryd.f59) (body := B) (V := W) (res := res) <|
 mFin 6 h
end drossref03_Names
end Go.Own

namespace Go.Own
open Go.Proofs D
set_option maxRecDepth 100000
set_option maxHeartbeats 4000000
namespace drossref03_Valid
noncomputable def B : Code := (Tryd.f34.body).getD .skip
def W : List Nat := [0, 1, 2, 3, 4, 5, 9, 19, 23, 28, 39, 48, 52]
def res (r : Int) : D × List D := (.lit (.int .i64 r), [])
def C (x0 : api_Table) (r : Int) : Prop := Ret env 34 [.agg [.lit (.string x0.Name), .sl (x0.Attrs.map eS), .sl (x0.Rows.map enc_api_Row)]] (res r).1 (res r).2
def L1 (x0 : api_Table) (y3_L1 : Int) (y4_L1 : Int) (φ : Int → Prop) : Prop := Pt env 34 W B [1, 1, 1, 1, 1, 0, 1, 0] [(0, .agg [.lit (.string x0.Name), .sl (x0.Attrs.map eS), .sl (x0.Rows.map enc_api_Row)]), (1, .box [.lit (.string x0.Name), .sl (x0.Attrs.map eS), .sl (x0.Rows.map enc_api_Row)]), (3, .lit (.int .i64 y3_L1)), (4, .lit (.int .i64 y4_L1))] (Lv env 34 Tryd.f34 1 res φ)
theorem L1_step (x0 : api_Table) (y3_L1 : Int) (y4_L1 : Int) (φ : Int → Prop) (h :
    (if y4_L1 < (x0.Rows.length : Int) then
      ∃ a3, lget x0.Rows y4_L1 = some a3 ∧
      (if a3.ID ≤ y3_L1 then
        φ 1
      else
        (if (a3.Values.length : Int) = (x0.Attrs.length : Int) then
          ∃ r5 : Bool, drossref01_Valids.C a3.Values r5 ∧
          (if r5 = true then
            drossref03_Valid.L1 x0 a3.ID ((IntKind.wrap .i64 (y4_L1 + 1))) φ
          else
            φ 1)
        else
          φ 6))
    else
      φ 0)) : L1 x0 y3_L1 y4_L1 φ :=
 mIn <|
 mLen 5 enc_api_Row x0.Rows <|
 mAsk 0 h dT dF (fun h =>
 mIx 7 enc_api_Row h fun a3 h4 h =>
 mAsk 8 h dT dF (fun h =>
 mRet 5 h) fun h =>
 mLen 11 enc_api_Value a3.Values <|
 mLen 2 eS x0.Attrs <|
 mAskN 0 h bne_t bne_f (fun h =>
 mRet 5 h) fun h =>
 mCalB 6 h (fun _ h => h) (fun _ h =>
 mFin 9 h) fun _ h =>
 mRet 6 h) fun h =>
 mRet 6 h
theorem enter (x0 : api_Table) (φ : Int → Prop) (h :
    ∃ r1 : Bool, drossref03_Name.C x0.Name r1 ∧
    (if r1 = true then
      (if 16 < (x0.Attrs.length : Int) then
        φ 3
      else
        (if 1000 < (x0.Rows.length : Int) then
          φ 3
        else
          ∃ r2 : Bool, drossref03_Names.C x0.Attrs r2 ∧
          (if r2 = true then
            drossref03_Valid.L1 x0 0 0 φ
          else
            φ 1)))
    else
      φ 1)) : ∃ r, φ r ∧ C x0 r :=
 mEnt (fd := Tryd.f34) (body := B) (V := W) (res := res) <|
 mCalB 7 h (fun _ h => h) (fun _ h =>
 mLen 7 eS x0.Attrs <|
 mAsk 0 h dT dF (fun h =>
 mRet 11 h) fun h =>
 mLen 3 enc_api_Row x0.Rows <|
 mAsk 0 h dT dF (fun h =>
 mRet 6 h) fun h =>
 mCalB 7 h (fun _ h => h) (fun _ h =>
 mFin 10 h) fun _ h =>
 mRet 6 h) fun _ h =>
 mRet 6 h
end drossref03_Valid
end Go.Own

namespace Go.Own
open Go.Proofs D
set_option maxRecDepth 100000
set_option maxHeartbeats 4000000
namespace attrset_Members
noncomputable def B : Code := (Tryd.f53.body).getD .skip
def W : List Nat := [0, 2, 3, 5]
def res (r : List Int) : D × List D := (.own (r.map (eI .i64)), [])
def C (x0 : Int) (r : List Int) : Prop := Ret env 53 [.lit (.int .u32 x0)] (res r).1 (res r).2
def L1 (x0 : Int) (y3_L1 : List Int) (φ : List Int → Prop) : Prop := Pt env 53 W B [1, 1, 0, 0] [(0, .lit (.int .u32 x0)), (3, .own (y3_L1.map (eI .i64)))] (Lv env 53 Tryd.f53 1 res φ)
theorem L1_step (x0 : Int) (y3_L1 : List Int) (φ : List Int → Prop) (h :
    (if x0 = 0 then
      φ y3_L1
    else
      (0 ≤ x0 ∧ x0 < 4294967296) ∧
      (y3_L1.length + 1) * 8 ≤ 140737488355328 ∧
      attrset_Members.L1 ((bAnd .u32 x0 (IntKind.wrap .u32 (x0 - 1)))) ((y3_L1 ++ [(tz32 x0)])) φ)) : L1 x0 y3_L1 φ :=
 mIn <|
 mAskN 3 h bne_t bne_f (fun h =>
 h.elim fun h1 h =>
 mCalP 6 (show Ret env 72 [.lit (.int .u32 x0)] (.lit (.int .i64 ((tz32 x0)))) [] from ret_zeros (by kernel_rfl) h1) <|
 mApp 1 (eI .i64) y3_L1 ([(tz32 x0)]) h fun h =>
 mFin 9 h) fun h =>
 mRet 7 h
theorem enter (x0 : Int) (φ : List Int → Prop) (h :
    attrset_Members.L1 x0 ([]) φ) : ∃ r, φ r ∧ C x0 r :=
 mEnt (fd := Tryd.f53) (body := B) (V := W) (res := res) <|
 mFin 6 h
end attrset_Members
end Go.Own

namespace Go.Own
open Go.Proofs D
set_option maxRecDepth 100000
set_option maxHeartbeats 4000000
namespace drossref02_Full
noncomputable def B : Code := (Tryd.f35.body).getD .skip
def W : List Nat := [0, 2, 3, 4, 11]
def res (r : Int) : D × List D := (.lit (.int .u32 r), [])
def C (x0 : Int) (r : Int) : Prop := Ret env 35 [.lit (.int .i64 x0)] (res r).1 (res r).2
def L1 (x0 : Int) (y3_L1 : Int) (y4_L1 : Int) (φ : Int → Prop) : Prop := Pt env 35 W B [1, 1, 0, 1, 0] [(0, .lit (.int .i64 x0)), (3, .lit (.int .u32 y3_L1)), (4, .lit (.int .i64 y4_L1))] (Lv env 35 Tryd.f35 1 res φ)
theorem L1_step (x0 : Int) (y3_L1 : Int) (y4_L1 : Int) (φ : Int → Prop) (h :
    (if y4_L1 < x0 then
      (if y4_L1 < 32 then
        0 ≤ y4_L1 ∧
        drossref02_Full.L1 x0 ((bOr .u32 y3_L1 (shlw .u32 1 y4_L1))) ((IntKind.wrap .i64 (y4_L1 + 1))) φ
      else
        φ y3_L1)
    else
      φ y3_L1)) : L1 x0 y3_L1 y4_L1 φ :=
 mIn <|
 mAsk 4 h dT dF (fun h =>
 mAsk 2 h dT dF (fun h =>
 h.elim fun h1 h =>
 mBi 7 (bin_shl (t := 27) (q := .u32) (q' := .i64) (i1 := 1) h1) <|
 mFin 8 h) fun h =>
 mRet 8 h) fun h =>
 mRet 11 h
theorem enter (x0 : Int) (φ : Int → Prop) (h :
    drossref02_Full.L1 x0 0 0 φ) : ∃ r, φ r ∧ C x0 r :=
 mEnt (fd := Tryd.f35) (body := B) (V := W) (res := res) <|
 mFin 9 h
end drossref02_Full
end Go.Own

namespace Go.Own
open Go.Proofs D
set_option maxRecDepth 100000
set_option maxHeartbeats 4000000
namespace drossref02_Has
noncomputable def B : Code := (Tryd.f80.body).getD .skip
def W : List Nat := [0, 1, 4]
def res (r : Bool) : D × List D := (.lit (.bool r), [])
def C (x0 : Int) (x1 : Int) (r : Bool) : Prop := Ret env 80 [.lit (.int .u32 x0), .lit (.int .i64 x1)] (res r).1 (res r).2
theorem enter (x0 : Int) (x1 : Int) (φ : Bool → Prop) (h :
    (if 0 ≤ x1 then
      (if x1 < 32 then
        0 ≤ x1 ∧
        φ (((bAnd .u32 (shrw .u32 x0 x1) 1) == 1))
      else
        φ false)
    else
      φ false)) : ∃ r, φ r ∧ C x0 x1 r :=
 mEnt (fd := Tryd.f80) (body := B) (V := W) (res := res) <|
 mAsk 5 h dT dF (fun h =>
 mAsk 2 h dT dF (fun h =>
 h.elim fun h1 h =>
 mBi 4 (bin_shr (t := 27) (q := .u32) (q' := .i64) (i1 := x0) h1) <|
 mRet 5 h) fun h =>
 mRet 10 h) fun h =>
 mRet 13 h
end drossref02_Has
end Go.Own

namespace Go.Own
open Go.Proofs D
set_option maxRecDepth 100000
set_option maxHeartbeats 4000000
namespace drossref01_sign
noncomputable def B : Code := (Tryd.f84.body).getD .skip
def W : List Nat := [0, 1, 4, 7, 10]
def res (r : Int) : D × List D := (.lit (.int .i64 r), [])
def C (x0 : Int) (x1 : Int) (r : Int) : Prop := Ret env 84 [.lit (.int .i64 x0), .lit (.int .i64 x1)] (res r).1 (res r).2
theorem enter (x0 : Int) (x1 : Int) (φ : Int → Prop) (h :
    (if x0 < x1 then
      φ ((-1))
    else
      (if x1 < x0 then
        φ 1
      else
        φ 0))) : ∃ r, φ r ∧ C x0 x1 r :=
 mEnt (fd := Tryd.f84) (body := B) (V := W) (res := res) <|
 mAsk 6 h dT dF (fun h =>
 mRet 5 h) fun h =>
 mAsk 6 h dT dF (fun h =>
 mRet 5 h) fun h =>
 mRet 6 h
end drossref01_sign
end Go.Own

namespace Go.Own
open Go.Proofs D
set_option maxRecDepth 100000
set_option maxHeartbeats 4000000
namespace drossref01_strings
noncomputable def B : Code := (Tryd.f85.body).getD .skip
def W : List Nat := [0, 1, 4, 5, 15, 24]
def res (r : Int) : D × List D := (.lit (.int .i64 r), [])
def C (x0 : ByteArray) (x1 : ByteArray) (r : Int) : Prop := Ret env 85 [.lit (.string x0), .lit (.string x1)] (res r).1 (res r).2
def L1 (x0 : ByteArray) (x1 : ByteArray) (y5_L1 : Int) (φ : Int → Prop) : Prop := Pt env 85 W B [1, 0, 1, 0] [(0, .lit (.string x0)), (1, .lit (.string x1)), (5, .lit (.int .i64 y5_L1))] (Lv env 85 Tryd.f85 2 res φ)
def L2 (x0 : ByteArray) (x1 : ByteArray) (φ : Int → Prop) : Prop := Pt env 85 W B [1, 1, 0] [(0, .lit (.string x0)), (1, .lit (.string x1))] (Lv env 85 Tryd.f85 2 res φ)
theorem L1_step (x0 : ByteArray) (x1 : ByteArray) (y5_L1 : Int) (φ : Int → Prop) (h :
    (if y5_L1 < (bsize x0) then
      (if y5_L1 < (bsize x1) then
        ∃ b1, ((0 : Int) ≤ y5_L1 ∧ x0[(y5_L1).toNat]? = some b1) ∧
        ∃ b4, ((0 : Int) ≤ y5_L1 ∧ x1[(y5_L1).toNat]? = some b4) ∧
        (if (u8i b1) = (u8i b4) then
          drossref01_strings.L1 x0 x1 ((IntKind.wrap .i64 (y5_L1 + 1))) φ
        else
          ∃ b7, ((0 : Int) ≤ y5_L1 ∧ x0[(y5_L1).toNat]? = some b7) ∧
          ∃ b10, ((0 : Int) ≤ y5_L1 ∧ x1[(y5_L1).toNat]? = some b10) ∧
          ∃ r13 : Int, drossref01_sign.C ((IntKind.wrap .i64 (u8i b7))) ((IntKind.wrap .i64 (u8i b10))) r13 ∧
          φ r13)
      else
        drossref01_strings.L2 x0 x1 φ)
    else
      drossref01_strings.L2 x0 x1 φ)) : L1 x0 x1 y5_L1 φ :=
 mIn <|
 mAsk 5 h dT dF (fun h =>
 mAsk 4 h dT dF (fun h =>
 mSt 7 h fun b1 h =>
 mSt 2 h fun b4 h =>
 mAskN 0 h bne_t bne_f (fun h =>
 mSt 5 h fun b7 h =>
 mSt 3 h fun b10 h =>
 mCal 1 h (fun _ h => h) fun r13 _ h =>
 mRet 2 h) fun h =>
 mFin 8 h) fun h =>
 mFin 4 h) fun h =>
 mFin 9 h
theorem L2_step (x0 : ByteArray) (x1 : ByteArray) (φ : Int → Prop) (h :
    ∃ r14 : Int, drossref01_sign.C ((bsize x0)) ((bsize x1)) r14 ∧
    φ r14) : L2 x0 x1 φ :=
 mIn <|
 mCal 5 h (fun _ h => h) fun r14 _ h =>
 mRet 2 h
theorem enter (x0 : ByteArray) (x1 : ByteArray) (φ : Int → Prop) (h :
    drossref01_strings.L1 x0 x1 0 φ) : ∃ r, φ r ∧ C x0 x1 r :=
 mEnt (fd := Tryd.f85) (body := B) (V := W) (res := res) <|
 mFin 6 h
end drossref01_strings
end Go.Own

namespace Go.Own
open Go.Proofs D
set_option maxRecDepth 100000
set_option maxHeartbeats 4000000
namespace drossref01_Compare
noncomputable def B : Code := (Tryd.f83.body).getD .skip
def W : List Nat := [0, 1, 2, 3, 4, 5, 6, 13, 21]
def res (r : Int) : D × List D := (.lit (.int .i64 r), [])
def C (x0 : api_Value) (x1 : api_Value) (r : Int) : Prop := Ret env 83 [.agg [.lit (.int .i64 x0.Kind), .lit (.int .i64 x0.Num), .lit (.string x0.Str)], .agg [.lit (.int .i64 x1.Kind), .lit (.int .i64 x1.Num), .lit (.string x1.Str)]] (res r).1 (res r).2
theorem enter (x0 : api_Value) (x1 : api_Value) (φ : Int → Prop) (h :
    ∃ r1 : Int, drossref01_sign.C x0.Kind x1.Kind r1 ∧
    (if r1 = 0 then
      ∃ r2 : Int, drossref01_sign.C x0.Num x1.Num r2 ∧
      (if r2 = 0 then
        ∃ r3 : Int, drossref01_strings.C x0.Str x1.Str r3 ∧
        φ r3
      else
        φ r2)
    else
      φ r1)) : ∃ r, φ r ∧ C x0 x1 r :=
 mEnt (fd := Tryd.f83) (body := B) (V := W) (res := res) <|
 mCal 10 h (fun _ h => h) fun r1 _ h =>
 mAskN 4 h bne_t bne_f (fun h =>
 mRet 6 h) fun h =>
 mCal 8 h (fun _ h => h) fun r2 _ h =>
 mAskN 4 h bne_t bne_f (fun h =>
 mRet 6 h) fun h =>
 mCal 8 h (fun _ h => h) fun r3 _ h =>
 mRet 2 h
end drossref01_Compare
end Go.Own

namespace Go.Own
open Go.Proofs D
set_option maxRecDepth 100000
set_option maxHeartbeats 4000000
namespace drossref01_Lists
noncomputable def B : Code := (Tryd.f79.body).getD .skip
def W : List Nat := [0, 1, 4, 5, 6, 16, 29]
def res (r : Int) : D × List D := (.lit (.int .i64 r), [])
def C (x0 : List api_Value) (x1 : List api_Value) (r : Int) : Prop := Ret env 79 [.sl (x0.map enc_api_Value), .sl (x1.map enc_api_Value)] (res r).1 (res r).2
def L1 (x0 : List api_Value) (x1 : List api_Value) (y5_L1 : Int) (φ : Int → Prop) : Prop := Pt env 79 W B [1, 0, 1, 0] [(0, .sl (x0.map enc_api_Value)), (1, .sl (x1.map enc_api_Value)), (5, .lit (.int .i64 y5_L1))] (Lv env 79 Tryd.f79 2 res φ)
def L2 (x0 : List api_Value) (x1 : List api_Value) (φ : Int → Prop) : Prop := Pt env 79 W B [1, 1, 0] [(0, .sl (x0.map enc_api_Value)), (1, .sl (x1.map enc_api_Value))] (Lv env 79 Tryd.f79 2 res φ)
theorem L1_step (x0 : List api_Value) (x1 : List api_Value) (y5_L1 : Int) (φ : Int → Prop) (h :
    (if y5_L1 < (x0.length : Int) then
      (if y5_L1 < (x1.length : Int) then
        ∃ a1, lget x0 y5_L1 = some a1 ∧
        ∃ a3, lget x1 y5_L1 = some a3 ∧
        ∃ r5 : Int, drossref01_Compare.C a1 a3 r5 ∧
        (if r5 = 0 then
          drossref01_Lists.L1 x0 x1 ((IntKind.wrap .i64 (y5_L1 + 1))) φ
        else
          φ r5)
      else
        drossref01_Lists.L2 x0 x1 φ)
    else
      drossref01_Lists.L2 x0 x1 φ)) : L1 x0 x1 y5_L1 φ :=
 mIn <|
 mLen 4 enc_api_Value x0 <|
 mAsk 0 h dT dF (fun h =>
 mLen 3 enc_api_Value x1 <|
 mAsk 0 h dT dF (fun h =>
 mIx 7 enc_api_Value h fun a1 h2 h =>
 mIx 3 enc_api_Value h fun a3 h4 h =>
 mCal 1 h (fun _ h => h) fun r5 _ h =>
 mAskN 4 h bne_t bne_f (fun h =>
 mRet 6 h) fun h =>
 mFin 8 h) fun h =>
 mFin 4 h) fun h =>
 mFin 9 h
theorem L2_step (x0 : List api_Value) (x1 : List api_Value) (φ : Int → Prop) (h :
    ∃ r6 : Int, drossref01_sign.C ((x0.length : Int)) ((x1.length : Int)) r6 ∧
    φ r6) : L2 x0 x1 φ :=
 mIn <|
 mLen 2 enc_api_Value x0 <|
 mLen 1 enc_api_Value x1 <|
 mCal 0 h (fun _ h => h) fun r6 _ h =>
 mRet 2 h
theorem enter (x0 : List api_Value) (x1 : List api_Value) (φ : Int → Prop) (h :
    drossref01_Lists.L1 x0 x1 0 φ) : ∃ r, φ r ∧ C x0 x1 r :=
 mEnt (fd := Tryd.f79) (body := B) (V := W) (res := res) <|
 mFin 6 h
end drossref01_Lists
end Go.Own

namespace Go.Own
open Go.Proofs D
set_option maxRecDepth 100000
set_option maxHeartbeats 4000000
namespace drossref01_Same
noncomputable def B : Code := (Tryd.f61.body).getD .skip
def W : List Nat := [0, 1, 4]
def res (r : Bool) : D × List D := (.lit (.bool r), [])
def C (x0 : List api_Value) (x1 : List api_Value) (r : Bool) : Prop := Ret env 61 [.sl (x0.map enc_api_Value), .sl (x1.map enc_api_Value)] (res r).1 (res r).2
theorem enter (x0 : List api_Value) (x1 : List api_Value) (φ : Bool → Prop) (h :
    ∃ r1 : Int, drossref01_Lists.C x0 x1 r1 ∧
    φ ((r1 == 0))) : ∃ r, φ r ∧ C x0 x1 r :=
 mEnt (fd := Tryd.f61) (body := B) (V := W) (res := res) <|
 mCal 6 h (fun _ h => h) fun r1 _ h =>
 mRet 3 h
end drossref01_Same
end Go.Own

namespace Go.Own
open Go.Proofs D
set_option maxRecDepth 100000
set_option maxHeartbeats 4000000
namespace value_number
noncomputable def B : Code := (Tryd.f73.body).getD .skip
def W : List Nat := [0, 1, 4, 5, 6, 11]
def res (r : List Int) : D × List D := (.own (r.map (eI .u8)), [])
def C (x1 : Int) (k0_0 : List Int) (r : List Int) : Prop := Ret env 73 [.own (k0_0.map (eI .u8)), .lit (.int .i64 x1)] (res r).1 (res r).2
def L1 (k0_0 : List Int) (y5_L1 : Int) (y6_L1 : Int) (φ : List Int → Prop) : Prop := Pt env 73 W B [1, 1, 0, 1, 0] [(0, .own (k0_0.map (eI .u8))), (5, .lit (.int .u64 y5_L1)), (6, .lit (.int .i64 y6_L1))] (Lv env 73 Tryd.f73 2 res φ)
theorem L1_step (k0_0 : List Int) (y5_L1 : Int) (y6_L1 : Int) (φ : List Int → Prop) (h :
    (if 0 ≤ y6_L1 then
      0 ≤ y6_L1 ∧
      (k0_0.length + 1) * 1 ≤ 140737488355328 ∧
      value_number.L1 ((k0_0 ++ [(IntKind.wrap .u8 (shrw .u64 y5_L1 y6_L1))])) y5_L1 ((IntKind.wrap .i64 (y6_L1 - 8))) φ
    else
      φ k0_0)) : L1 k0_0 y5_L1 y6_L1 φ :=
 mIn <|
 mAsk 3 h dT dF (fun h =>
 h.elim fun h1 h =>
 mBi 7 (bin_shr (t := 86) (q := .u64) (q' := .i64) (i1 := y5_L1) h1) <|
 mApp 2 (eI .u8) k0_0 ([(IntKind.wrap .u8 (shrw .u64 y5_L1 y6_L1))]) h fun h =>
 mFin 7 h) fun h =>
 mRet 7 h
theorem enter (x1 : Int) (k0_0 : List Int) (φ : List Int → Prop) (h :
    value_number.L1 k0_0 ((bXor .u64 (IntKind.wrap .u64 x1) 9223372036854775808)) 56 φ) : ∃ r, φ r ∧ C x1 k0_0 r :=
 mEnt (fd := Tryd.f73) (body := B) (V := W) (res := res) <|
 mFin 12 h
end value_number
end Go.Own

namespace Go.Own
open Go.Proofs D
set_option maxRecDepth 100000
set_option maxHeartbeats 4000000
namespace value_Key
noncomputable def B : Code := (Tryd.f54.body).getD .skip
def W : List Nat := [0, 1, 2, 3, 4, 5, 8, 14, 15, 22, 26, 27, 28, 41]
def res (r : ByteArray × Int) : D × List D := (.tup [.lit (.string r.1), .lit (.int .i64 r.2)], [])
def C (x0 : api_Value) (r : ByteArray × Int) : Prop := Ret env 54 [.agg [.lit (.int .i64 x0.Kind), .lit (.int .i64 x0.Num), .lit (.string x0.Str)]] (res r).1 (res r).2
def L2 (x0 : api_Value) (y15_L2 : Bool) (φ : ByteArray × Int → Prop) : Prop := Pt env 54 W B [1, 1, 1, 0, 1, 0, 1, 0] [(0, .agg [.lit (.int .i64 x0.Kind), .lit (.int .i64 x0.Num), .lit (.string x0.Str)]), (1, .box [.lit (.int .i64 x0.Kind), .lit (.int .i64 x0.Num), .lit (.string x0.Str)]), (4, .own (([(IntKind.wrap .u8 x0.Kind)]).map (eI .u8))), (14, .lit (.int .i64 x0.Kind)), (15, .lit (.bool y15_L2))] (Lv env 54 Tryd.f54 1 res φ)
def L3 (x0 : api_Value) (φ : ByteArray × Int → Prop) : Prop := Pt env 54 W B [1, 1, 1, 0, 1, 0, 1, 1, 0] [(0, .agg [.lit (.int .i64 x0.Kind), .lit (.int .i64 x0.Num), .lit (.string x0.Str)]), (1, .box [.lit (.int .i64 x0.Kind), .lit (.int .i64 x0.Num), .lit (.string x0.Str)]), (4, .own (([(IntKind.wrap .u8 x0.Kind)]).map (eI .u8))), (14, .lit (.int .i64 x0.Kind))] (Lv env 54 Tryd.f54 1 res φ)
def L1 (x0 : api_Value) (y4_L1 : List Int) (y27_L1 : Int) (φ : ByteArray × Int → Prop) : Prop := Pt env 54 W B [1, 1, 1, 0, 1, 0, 1, 1, 1, 0, 0, 1, 0] [(0, .agg [.lit (.int .i64 x0.Kind), .lit (.int .i64 x0.Num), .lit (.string x0.Str)]), (1, .box [.lit (.int .i64 x0.Kind), .lit (.int .i64 x0.Num), .lit (.string x0.Str)]), (4, .own (y4_L1.map (eI .u8))), (26, .lit (.int .i64 ((bsize x0.Str)))), (27, .lit (.int .i64 y27_L1))] (Lv env 54 Tryd.f54 1 res φ)
def L4 (x0 : api_Value) (y4_L4 : List Int) (y27_L1 : Int) (φ : ByteArray × Int → Prop) : Prop := Pt env 54 W B [1, 1, 1, 0, 1, 0, 1, 1, 1, 0, 0, 1, 0, 0, 1, 1, 1] [(0, .agg [.lit (.int .i64 x0.Kind), .lit (.int .i64 x0.Num), .lit (.string x0.Str)]), (1, .box [.lit (.int .i64 x0.Kind), .lit (.int .i64 x0.Num), .lit (.string x0.Str)]), (4, .own (y4_L4.map (eI .u8))), (26, .lit (.int .i64 ((bsize x0.Str)))), (27, .lit (.int .i64 y27_L1))] (Lv env 54 Tryd.f54 1 res φ)
theorem L2_step (x0 : api_Value) (y15_L2 : Bool) (φ : ByteArray × Int → Prop) (h :
    ∃ r2 : List Int, value_number.C x0.Num ([(IntKind.wrap .u8 x0.Kind)]) r2 ∧
    (∀ x ∈ r2, 0 ≤ x ∧ x < 256) ∧
    φ (((bstrI r2), 0))) : L2 x0 y15_L2 φ :=
 mIn <|
 mCal 4 h (fun _ h => h) (hf := (fun _ => clF_flat (flat_ow (e := (eI .u8)) (fun _ => rfl)) rfl)) fun r2 _ h =>
 h.elim fun h3 h =>
 mVl 4 (val_tostr (s := 40) (t := 9) (et := 5) (x := (.tmp 49)) (d := .alias 4 []) (l := r2) (by kernel_rfl) (by kernel_rfl) (elemsOf_ow (by kernel_rfl)) (by kernel_rfl) (by kernel_rfl) (by kernel_rfl) h3) <|
 mRet 3 h
theorem L3_step (x0 : api_Value) (φ : ByteArray × Int → Prop) (h :
    (if x0.Kind = 2 then
      value_Key.L1 x0 ([(IntKind.wrap .u8 x0.Kind)]) 0 φ
    else
      (∀ x ∈ ([(IntKind.wrap .u8 x0.Kind)]), 0 ≤ x ∧ x < 256) ∧
      φ (((bstrI [(IntKind.wrap .u8 x0.Kind)]), 0)))) : L3 x0 φ :=
 mIn <|
 mCon 4 h beq_t beq_f (fun h =>
 mFin 6 h) fun h =>
 h.elim fun h4 h =>
 mVl 3 (val_tostr (s := 40) (t := 9) (et := 5) (x := (.tmp 49)) (d := .alias 4 []) (l := [(IntKind.wrap .u8 x0.Kind)]) (by kernel_rfl) (by kernel_rfl) (elemsOf_ow (by kernel_rfl)) (by kernel_rfl) (by kernel_rfl) (by kernel_rfl) h4) <|
 mRet 3 h
theorem L1_step (x0 : api_Value) (y4_L1 : List Int) (y27_L1 : Int) (φ : ByteArray × Int → Prop) (h :
    (if y27_L1 < (bsize x0.Str) then
      ∃ b5, ((0 : Int) ≤ y27_L1 ∧ x0.Str[(y27_L1).toNat]? = some b5) ∧
      (y4_L1.length + 1) * 1 ≤ 140737488355328 ∧
      ∃ b9, ((0 : Int) ≤ y27_L1 ∧ x0.Str[(y27_L1).toNat]? = some b9) ∧
      (if (u8i b9) = 0 then
        (((y4_L1 ++ [(u8i b5)])).length + 1) * 1 ≤ 140737488355328 ∧
        value_Key.L4 x0 (((y4_L1 ++ [(u8i b5)]) ++ [255])) y27_L1 φ
      else
        value_Key.L4 x0 ((y4_L1 ++ [(u8i b5)])) y27_L1 φ)
    else
      (y4_L1.length + 2) * 1 ≤ 140737488355328 ∧
      (∀ x ∈ ((y4_L1 ++ [0, 1])), 0 ≤ x ∧ x < 256) ∧
      φ (((bstrI (y4_L1 ++ [0, 1])), 0)))) : L1 x0 y4_L1 y27_L1 φ :=
 mIn <|
 mAsk 2 h dT dF (fun h =>
 mSt 12 h fun b5 h =>
 mApp 1 (eI .u8) y4_L1 ([(u8i b5)]) h fun h =>
 mSt 6 h fun b9 h =>
 mAsk 0 h beq_t beq_f (fun h =>
 mApp 5 (eI .u8) ((y4_L1 ++ [(u8i b5)])) ([255]) h fun h =>
 mFin 2 h) fun h =>
 mFin 3 h) fun h =>
 mApp 6 (eI .u8) y4_L1 ([0, 1]) h fun h =>
 h.elim fun h14 h =>
 mVl 4 (val_tostr (s := 40) (t := 9) (et := 5) (x := (.tmp 49)) (d := .alias 4 []) (l := (y4_L1 ++ [0, 1])) (by kernel_rfl) (by kernel_rfl) (elemsOf_ow (by kernel_rfl)) (by kernel_rfl) (by kernel_rfl) (by kernel_rfl) h14) <|
 mRet 3 h
theorem L4_step (x0 : api_Value) (y4_L4 : List Int) (y27_L1 : Int) (φ : ByteArray × Int → Prop) (h :
    value_Key.L1 x0 y4_L4 ((IntKind.wrap .i64 (y27_L1 + 1))) φ) : L4 x0 y4_L4 y27_L1 φ :=
 mIn <|
 mFin 4 h
theorem enter (x0 : api_Value) (φ : ByteArray × Int → Prop) (h :
    ∃ r1 : Bool, value_Valid.C x0 r1 ∧
    (if r1 = true then
      (if x0.Kind = 1 then
        (if x0.Kind = 1 then
          value_Key.L2 x0 ((x0.Kind == 1)) φ
        else
          value_Key.L3 x0 φ)
      else
        (if x0.Kind = 3 then
          value_Key.L2 x0 ((x0.Kind == 3)) φ
        else
          value_Key.L3 x0 φ))
    else
      φ (((⟨#[]⟩ : ByteArray), 1)))) : ∃ r, φ r ∧ C x0 r :=
 mEnt (fd := Tryd.f54) (body := B) (V := W) (res := res) <|
 mCalB 7 h (fun _ h => h) (fun _ h =>
 mCon 19 h beq_t beq_f (fun h =>
 mCon 1 h beq_t beq_f (fun h =>
 mFin 0 h) fun h =>
 mFin 0 h) fun h =>
 mCon 4 h beq_t beq_f (fun h =>
 mFin 0 h) fun h =>
 mFin 0 h) fun _ h =>
 mRet 7 h
end value_Key
end Go.Own

namespace Go.Own
open Go.Proofs D
set_option maxRecDepth 100000
set_option maxHeartbeats 4000000
namespace drossref03_Values
noncomputable def B : Code := (Tryd.f62.body).getD .skip
def W : List Nat := [0, 1, 2, 4, 5, 6, 11, 16]
def res (r : List api_Value) : D × List D := (.own (r.map enc_api_Value), [])
def C (x0 : api_Row) (x1 : Int) (r : List api_Value) : Prop := Ret env 62 [.agg [.lit (.int .i64 x0.ID), .sl (x0.Values.map enc_api_Value)], .lit (.int .u32 x1)] (res r).1 (res r).2
def L1 (x0 : api_Row) (x1 : Int) (y5_L1 : List api_Value) (y6_L1 : Int) (φ : List api_Value → Prop) : Prop := Pt env 62 W B [1, 1, 0, 1, 0] [(0, .agg [.lit (.int .i64 x0.ID), .sl (x0.Values.map enc_api_Value)]), (1, .lit (.int .u32 x1)), (2, .box [.lit (.int .i64 x0.ID), .sl (x0.Values.map enc_api_Value)]), (5, .own (y5_L1.map enc_api_Value)), (6, .lit (.int .i64 y6_L1))] (Lv env 62 Tryd.f62 2 res φ)
def L2 (x0 : api_Row) (x1 : Int) (y5_L2 : List api_Value) (y6_L1 : Int) (φ : List api_Value → Prop) : Prop := Pt env 62 W B [1, 1, 0, 1, 0, 0, 1, 1] [(0, .agg [.lit (.int .i64 x0.ID), .sl (x0.Values.map enc_api_Value)]), (1, .lit (.int .u32 x1)), (2, .box [.lit (.int .i64 x0.ID), .sl (x0.Values.map enc_api_Value)]), (5, .own (y5_L2.map enc_api_Value)), (6, .lit (.int .i64 y6_L1))] (Lv env 62 Tryd.f62 2 res φ)
theorem L1_step (x0 : api_Row) (x1 : Int) (y5_L1 : List api_Value) (y6_L1 : Int) (φ : List api_Value → Prop) (h :
    (if y6_L1 < (x0.Values.length : Int) then
      ∃ r1 : Bool, drossref02_Has.C x1 y6_L1 r1 ∧
      (if r1 = true then
        ∃ a2, lget x0.Values y6_L1 = some a2 ∧
        (y5_L1.length + 1) * 32 ≤ 140737488355328 ∧
        drossref03_Values.L2 x0 x1 ((y5_L1 ++ [a2])) y6_L1 φ
      else
        drossref03_Values.L2 x0 x1 y5_L1 y6_L1 φ)
    else
      φ y5_L1)) : L1 x0 x1 y5_L1 y6_L1 φ :=
 mIn <|
 mLen 5 enc_api_Value x0.Values <|
 mAsk 0 h dT dF (fun h =>
 mCalB 6 h (fun _ h => h) (fun _ h =>
 mIx 7 enc_api_Value h fun a2 h3 h =>
 mApp 2 enc_api_Value y5_L1 ([a2]) h fun h =>
 mFin 2 h) fun _ h =>
 mFin 3 h) fun h =>
 mRet 7 h
theorem L2_step (x0 : api_Row) (x1 : Int) (y5_L2 : List api_Value) (y6_L1 : Int) (φ : List api_Value → Prop) (h :
    drossref03_Values.L1 x0 x1 y5_L2 ((IntKind.wrap .i64 (y6_L1 + 1))) φ) : L2 x0 x1 y5_L2 y6_L1 φ :=
 mIn <|
 mFin 5 h
theorem enter (x0 : api_Row) (x1 : Int) (φ : List api_Value → Prop) (h :
    drossref03_Values.L1 x0 x1 ([]) 0 φ) : ∃ r, φ r ∧ C x0 x1 r :=
 mEnt (fd := Tryd.f62) (body := B) (V := W) (res := res) <|
 mFin 10 h
end drossref03_Values
end Go.Own

namespace Go.Own
open Go.Proofs D
set_option maxRecDepth 100000
set_option maxHeartbeats 4000000
namespace drossref03_Agree
noncomputable def B : Code := (Tryd.f36.body).getD .skip
def W : List Nat := [0, 1, 2, 3, 4, 6]
def res (r : Bool) : D × List D := (.lit (.bool r), [])
def C (x0 : api_Row) (x1 : api_Row) (x2 : Int) (r : Bool) : Prop := Ret env 36 [.agg [.lit (.int .i64 x0.ID), .sl (x0.Values.map enc_api_Value)], .agg [.lit (.int .i64 x1.ID), .sl (x1.Values.map enc_api_Value)], .lit (.int .u32 x2)] (res r).1 (res r).2
theorem enter (x0 : api_Row) (x1 : api_Row) (x2 : Int) (φ : Bool → Prop) (h :
    ∃ r1 : List api_Value, drossref03_Values.C x0 x2 r1 ∧
    ∃ r2 : List api_Value, drossref03_Values.C x1 x2 r2 ∧
    ∃ r3 : Bool, drossref01_Same.C r1 r2 r3 ∧
    φ r3) : ∃ r, φ r ∧ C x0 x1 x2 r :=
 mEnt (fd := Tryd.f36) (body := B) (V := W) (res := res) <|
 mLo 8 h (fun _ h => h) (hf := (fun _ => loF_flat (flat_ow (e := enc_api_Value) (fun _ => rfl)))) fun r1 _ h =>
 mCal 2 h (fun _ h => h) (hf := (fun _ => clF_flat (flat_ow (e := enc_api_Value) (fun _ => rfl)) rfl)) fun r2 _ h =>
 mCal 0 h (fun _ h => h) (hr := (pr_snap (snap_ow (s := 9) (ps := []) (l := r1) (e := enc_api_Value) (e' := enc_api_Value) (fun _ => rfl) (by kernel_rfl)) (pr_snap (snap_ow (s := 12) (ps := []) (l := r2) (e := enc_api_Value) (e' := enc_api_Value) (fun _ => rfl) (by kernel_rfl)) pr_nil))) fun r3 _ h =>
 mRet 2 h
end drossref03_Agree
end Go.Own

namespace Go.Own
open Go.Proofs D
set_option maxRecDepth 100000
set_option maxHeartbeats 4000000
namespace partition_Valid
noncomputable def B : Code := (Tryd.f15.body).getD .skip
def W : List Nat := [0, 1, 2, 3, 4, 6, 7, 9, 17, 22, 23, 24, 25, 37, 41, 42, 43, 44, 61]
def res (r : Bool) : D × List D := (.lit (.bool r), [])
def C (x0 : api_Partition) (r : Bool) : Prop := Ret env 15 [.agg [.lit (.int .i64 x0.Rows), .sl (x0.Classes.map (eSl (eI .i64)))]] (res r).1 (res r).2
def L1 (x0 : api_Partition) (y3_L1 : List Bool) (y4_L1 : Int) (y24_L1 : Int) (φ : Bool → Prop) : Prop := Pt env 15 W B [1, 1, 1, 1, 0, 1, 0] [(0, .agg [.lit (.int .i64 x0.Rows), .sl (x0.Classes.map (eSl (eI .i64)))]), (1, .box [.lit (.int .i64 x0.Rows), .sl (x0.Classes.map (eSl (eI .i64)))]), (3, .own (y3_L1.map eB)), (4, .lit (.int .i64 y4_L1)), (22, .sl (x0.Classes.map (eSl (eI .i64)))), (23, .lit (.int .i64 ((x0.Classes.length : Int)))), (24, .lit (.int .i64 y24_L1))] (Lv env 15 Tryd.f15 1 res φ)
def L2 (x0 : api_Partition) (y3_L2 : List Bool) (a4 : Int) (a2 : List Int) (y7_L2 : Int) (y24_L2 : Int) (y43_L2 : Int) (φ : Bool → Prop) : Prop := Pt env 15 W B [1, 1, 1, 1, 0, 1, 0, 0, 1, 1, 0, 0, 1, 1, 1, 1, 1, 0] [(0, .agg [.lit (.int .i64 x0.Rows), .sl (x0.Classes.map (eSl (eI .i64)))]), (1, .box [.lit (.int .i64 x0.Rows), .sl (x0.Classes.map (eSl (eI .i64)))]), (3, .own (y3_L2.map eB)), (4, .lit (.int .i64 a4)), (6, .sl (a2.map (eI .i64))), (7, .lit (.int .i64 y7_L2)), (22, .sl (x0.Classes.map (eSl (eI .i64)))), (23, .lit (.int .i64 ((x0.Classes.length : Int)))), (24, .lit (.int .i64 y24_L2)), (41, .sl (a2.map (eI .i64))), (42, .lit (.int .i64 ((a2.length : Int)))), (43, .lit (.int .i64 y43_L2))] (Lv env 15 Tryd.f15 1 res φ)
theorem L1_step (x0 : api_Partition) (y3_L1 : List Bool) (y4_L1 : Int) (y24_L1 : Int) (φ : Bool → Prop) (h :
    (if y24_L1 < (x0.Classes.length : Int) then
      ∃ a2, lget x0.Classes y24_L1 = some a2 ∧
      (if (a2.length : Int) < 2 then
        φ false
      else
        ∃ a4, lget a2 0 = some a4 ∧
        (if a4 ≤ y4_L1 then
          φ false
        else
          partition_Valid.L2 x0 y3_L1 a4 a2 ((-1)) y24_L1 0 φ))
    else
      φ true)) : L1 x0 y3_L1 y4_L1 y24_L1 φ :=
 mIn <|
 mAsk 2 h dT dF (fun h =>
 mIx 4 (eSl (eI .i64)) h fun a2 h3 h =>
 mLen 5 (eI .i64) a2 <|
 mAsk 0 h dT dF (fun h =>
 mRet 12 h) fun h =>
 mIx 2 (eI .i64) h fun a4 h5 h =>
 mAsk 2 h dT dF (fun h =>
 mRet 6 h) fun h =>
 mIxf 6 (eI .i64) h5 <|
 mLen 8 (eI .i64) a2 <|
 mFin 2 h) fun h =>
 mRet 6 h
theorem L2_step (x0 : api_Partition) (y3_L2 : List Bool) (a4 : Int) (a2 : List Int) (y7_L2 : Int) (y24_L2 : Int) (y43_L2 : Int) (φ : Bool → Prop) (h :
    (if y43_L2 < (a2.length : Int) then
      ∃ a6, lget a2 y43_L2 = some a6 ∧
      (if a6 ≤ y7_L2 then
        φ false
      else
        (if x0.Rows ≤ a6 then
          φ false
        else
          ∃ a8, lget y3_L2 a6 = some a8 ∧
          (if a8 = true then
            φ false
          else
            partition_Valid.L2 x0 ((lset y3_L2 a6 true)) a4 a2 a6 y24_L2 ((IntKind.wrap .i64 (y43_L2 + 1))) φ)))
    else
      partition_Valid.L1 x0 y3_L2 a4 ((IntKind.wrap .i64 (y24_L2 + 1))) φ)) : L2 x0 y3_L2 a4 a2 y7_L2 y24_L2 y43_L2 φ :=
 mIn <|
 mAsk 2 h dT dF (fun h =>
 mIx 4 (eI .i64) h fun a6 h7 h =>
 mAsk 6 h dT dF (fun h =>
 mRet 17 h) fun h =>
 mAsk 4 h dT dF (fun h =>
 mRet 12 h) fun h =>
 mIy 4 eB h fun a8 h9 h =>
 mLdB 0 h9 h (fun h =>
 mRet 6 h) fun h =>
 mIyf 7 eB h9 <|
 mSto 0 eB true h9 <|
 mFin 9 h) fun h =>
 mFin 7 h
theorem enter (x0 : api_Partition) (φ : Bool → Prop) (h :
    (if x0.Rows < 0 then
      φ false
    else
      (if 1000 < x0.Rows then
        φ false
      else
        (0 ≤ x0.Rows ∧ x0.Rows * 1 ≤ 281474976710656) ∧
        partition_Valid.L1 x0 ((List.replicate x0.Rows.toNat false)) ((-1)) 0 φ))) : ∃ r, φ r ∧ C x0 r :=
 mEnt (fd := Tryd.f15) (body := B) (V := W) (res := res) <|
 mAsk 7 h dT dF (fun h =>
 mRet 10 h) fun h =>
 mAsk 3 h dT dF (fun h =>
 mRet 6 h) fun h =>
 h.elim fun h1 h =>
 mVl 7 (val_make (t := 70) (x := (.tmp 19)) (y := (.tmp 19)) (q := .i64) (i := x0.Rows) (et := 4) (z := .lit (.bool false)) (e := eB) (a := false) (k := 1) (by kernel_rfl) (by kernel_rfl) (by kernel_rfl) (by kernel_rfl) (by kernel_rfl) (by kernel_rfl) (by kernel_rfl) (by kernel_rfl) (by kernel_rfl) (by kernel_rfl) h1.1 h1.2) <|
 mLen 8 (eSl (eI .i64)) x0.Classes <|
 mFin 2 h
end partition_Valid
end Go.Own

namespace Go.Own
open Go.Proofs D
set_option maxRecDepth 100000
set_option maxHeartbeats 4000000
namespace drossref08_Valid
noncomputable def B : Code := (Tryd.f16.body).getD .skip
def W : List Nat := [0, 1, 2, 3, 4, 5, 6, 7, 15, 23, 40, 47, 88]
def res (r : Bool) : D × List D := (.lit (.bool r), [])
def C (x0 : api_Partition) (r : Bool) : Prop := Ret env 16 [.agg [.lit (.int .i64 x0.Rows), .sl (x0.Classes.map (eSl (eI .i64)))]] (res r).1 (res r).2
def L1 (x0 : api_Partition) (y3_L1 : List Bool) (y4_L1 : Int) (y5_L1 : Int) (φ : Bool → Prop) : Prop := Pt env 16 W B [1, 1, 1, 1, 0, 1, 0] [(0, .agg [.lit (.int .i64 x0.Rows), .sl (x0.Classes.map (eSl (eI .i64)))]), (1, .box [.lit (.int .i64 x0.Rows), .sl (x0.Classes.map (eSl (eI .i64)))]), (3, .own (y3_L1.map eB)), (4, .lit (.int .i64 y4_L1)), (5, .lit (.int .i64 y5_L1))] (Lv env 16 Tryd.f16 1 res φ)
def L2 (x0 : api_Partition) (y3_L2 : List Bool) (a4 : Int) (y5_L2 : Int) (a2 : List Int) (y7_L2 : Int) (φ : Bool → Prop) : Prop := Pt env 16 W B [1, 1, 1, 1, 0, 1, 0, 0, 1, 0, 0, 1, 1, 1, 1, 0] [(0, .agg [.lit (.int .i64 x0.Rows), .sl (x0.Classes.map (eSl (eI .i64)))]), (1, .box [.lit (.int .i64 x0.Rows), .sl (x0.Classes.map (eSl (eI .i64)))]), (3, .own (y3_L2.map eB)), (4, .lit (.int .i64 a4)), (5, .lit (.int .i64 y5_L2)), (6, .sl (a2.map (eI .i64))), (7, .lit (.int .i64 y7_L2))] (Lv env 16 Tryd.f16 1 res φ)
def L3 (x0 : api_Partition) (y3_L2 : List Bool) (a4 : Int) (y5_L3 : Int) (a2 : List Int) (y7_L2 : Int) (φ : Bool → Prop) : Prop := Pt env 16 W B [1, 1, 1, 1, 0, 1, 0, 0, 1, 0, 0, 1, 1, 1, 1, 0, 0, 1, 0, 0, 1] [(0, .agg [.lit (.int .i64 x0.Rows), .sl (x0.Classes.map (eSl (eI .i64)))]), (1, .box [.lit (.int .i64 x0.Rows), .sl (x0.Classes.map (eSl (eI .i64)))]), (3, .own (y3_L2.map eB)), (4, .lit (.int .i64 a4)), (5, .lit (.int .i64 y5_L3)), (6, .sl (a2.map (eI .i64))), (7, .lit (.int .i64 y7_L2))] (Lv env 16 Tryd.f16 1 res φ)
theorem L1_step (x0 : api_Partition) (y3_L1 : List Bool) (y4_L1 : Int) (y5_L1 : Int) (φ : Bool → Prop) (h :
    (if y5_L1 < (x0.Classes.length : Int) then
      ∃ a2, lget x0.Classes y5_L1 = some a2 ∧
      (if (a2.length : Int) < 2 then
        φ false
      else
        ∃ a4, lget a2 0 = some a4 ∧
        (if a4 ≤ y4_L1 then
          φ false
        else
          drossref08_Valid.L2 x0 y3_L1 a4 y5_L1 a2 0 φ))
    else
      φ true)) : L1 x0 y3_L1 y4_L1 y5_L1 φ :=
 mIn <|
 mLen 5 (eSl (eI .i64)) x0.Classes <|
 mAsk 0 h dT dF (fun h =>
 mIx 7 (eSl (eI .i64)) h fun a2 h3 h =>
 mLen 5 (eI .i64) a2 <|
 mAsk 0 h dT dF (fun h =>
 mRet 12 h) fun h =>
 mIx 2 (eI .i64) h fun a4 h5 h =>
 mAsk 2 h dT dF (fun h =>
 mRet 6 h) fun h =>
 mIxf 6 (eI .i64) h5 <|
 mFin 6 h) fun h =>
 mRet 6 h
theorem L2_step (x0 : api_Partition) (y3_L2 : List Bool) (a4 : Int) (y5_L2 : Int) (a2 : List Int) (y7_L2 : Int) (φ : Bool → Prop) (h :
    (if y7_L2 < (a2.length : Int) then
      ∃ a6, lget a2 y7_L2 = some a6 ∧
      (if a6 < 0 then
        φ false
      else
        (if x0.Rows ≤ a6 then
          φ false
        else
          ∃ a8, lget y3_L2 a6 = some a8 ∧
          (if a8 = true then
            φ false
          else
            (if 0 < y7_L2 then
              ∃ a10, lget a2 ((IntKind.wrap .i64 (y7_L2 - 1))) = some a10 ∧
              (if a6 ≤ a10 then
                φ false
              else
                drossref08_Valid.L3 x0 y3_L2 a4 y5_L2 a2 y7_L2 φ)
            else
              drossref08_Valid.L3 x0 y3_L2 a4 y5_L2 a2 y7_L2 φ))))
    else
      drossref08_Valid.L1 x0 y3_L2 a4 ((IntKind.wrap .i64 (y5_L2 + 1))) φ)) : L2 x0 y3_L2 a4 y5_L2 a2 y7_L2 φ :=
 mIn <|
 mLen 4 (eI .i64) a2 <|
 mAsk 0 h dT dF (fun h =>
 mIx 6 (eI .i64) h fun a6 h7 h =>
 mAsk 1 h dT dF (fun h =>
 mRet 39 h) fun h =>
 mIxf 3 (eI .i64) h7 <|
 mAsk 3 h dT dF (fun h =>
 mRet 31 h) fun h =>
 mIxf 5 (eI .i64) h7 <|
 mIy 1 eB h fun a8 h9 h =>
 mLdB 0 h9 h (fun h =>
 mRet 22 h) fun h =>
 mAsk 3 h dT dF (fun h =>
 mIxf 3 (eI .i64) h7 <|
 mIx 4 (eI .i64) h fun a10 h11 h =>
 mAsk 1 h dT dF (fun h =>
 mRet 7 h) fun h =>
 mFin 5 h) fun h =>
 mFin 16 h) fun h =>
 mFin 8 h
theorem L3_step (x0 : api_Partition) (y3_L2 : List Bool) (a4 : Int) (y5_L3 : Int) (a2 : List Int) (y7_L2 : Int) (φ : Bool → Prop) (h :
    ∃ a12, lget a2 y7_L2 = some a12 ∧
    ∃ a14, lget y3_L2 a12 = some a14 ∧
    drossref08_Valid.L2 x0 ((lset y3_L2 a12 true)) a4 y5_L3 a2 ((IntKind.wrap .i64 (y7_L2 + 1))) φ) : L3 x0 y3_L2 a4 y5_L3 a2 y7_L2 φ :=
 mIn <|
 mIx 4 (eI .i64) h fun a12 h13 h =>
 mIy 1 eB h fun a14 h15 h =>
 mSto 0 eB true h15 <|
 mFin 6 h
theorem enter (x0 : api_Partition) (φ : Bool → Prop) (h :
    (if x0.Rows < 0 then
      φ false
    else
      (if 1000 < x0.Rows then
        φ false
      else
        (0 ≤ x0.Rows ∧ x0.Rows * 1 ≤ 281474976710656) ∧
        drossref08_Valid.L1 x0 ((List.replicate x0.Rows.toNat false)) ((-1)) 0 φ))) : ∃ r, φ r ∧ C x0 r :=
 mEnt (fd := Tryd.f16) (body := B) (V := W) (res := res) <|
 mAsk 7 h dT dF (fun h =>
 mRet 10 h) fun h =>
 mAsk 3 h dT dF (fun h =>
 mRet 6 h) fun h =>
 h.elim fun h1 h =>
 mVl 7 (val_make (t := 70) (x := (.tmp 17)) (y := (.tmp 17)) (q := .i64) (i := x0.Rows) (et := 4) (z := .lit (.bool false)) (e := eB) (a := false) (k := 1) (by kernel_rfl) (by kernel_rfl) (by kernel_rfl) (by kernel_rfl) (by kernel_rfl) (by kernel_rfl) (by kernel_rfl) (by kernel_rfl) (by kernel_rfl) (by kernel_rfl) h1.1 h1.2) <|
 mFin 8 h
end drossref08_Valid
end Go.Own

namespace Go.Own
def okClass (rows : Int) : Int → List Bool → List Int → Option (List Bool)
  | _, seen, [] => some seen
  | before, seen, i :: r => if i ≤ before ∨ rows ≤ i ∨ lget seen i = some true then none else okClass rows i (lset seen i true) r
def okClasses (rows : Int) : Int → List Bool → List (List Int) → Bool
  | _, _, [] => true
  | first, seen, c :: cs => match c with
    | [] => false
    | [_] => false
    | a :: b :: r => if a ≤ first then false else match okClass rows (-1) seen (a :: b :: r) with
      | none => false
      | some seen' => okClasses rows a seen' cs
def validF (p : api_Partition) : Bool := if p.Rows < 0 then false else if 1000 < p.Rows then false else okClasses p.Rows (-1) (List.replicate p.Rows.toNat false) p.Classes
def Small (p : api_Partition) : Prop := p.Classes.length < Big ∧ ∀ c ∈ p.Classes, c.length < Big
theorem okClass_len {rows : Int} : ∀ {r : List Int} {b : Int} {s s' : List Bool}, okClass rows b s r = some s' → s'.length = s.length
  | [], _, _, _, h => by simp [okClass] at h; rw [h]
  | i :: r, b, s, s', h => by
    simp only [okClass] at h
    split at h
    · cases h
    · have := okClass_len h
      rw [this, lset_length]
namespace partition_Valid
theorem inner {x0 : api_Partition} {a4 y24 : Int} {a2 : List Int} {φ : Bool → Prop} (hb : a2.length < Big) : ∀ (r : List Int) (k : Nat) (seen : List Bool) (before : Int), a2.drop k = r → (seen.length : Int) = x0.Rows → -1 ≤ before →
    (match okClass x0.Rows before seen r with
      | none => φ false
      | some s => L1 x0 s a4 (IntKind.wrap .i64 (y24 + 1)) φ) → L2 x0 seen a4 a2 before y24 k φ
  | [], k, seen, before, hd, hs, hbf, h => by
    apply L2_step
    have := drop_ge hd
    rw [if_neg (by omega)]
    exact h
  | i :: r, k, seen, before, hd, hs, hbf, h => by
    apply L2_step
    have hk := drop_lt hd
    rw [if_pos (by omega)]
    refine ⟨i, lget_drop hd, ?_⟩
    simp only [okClass] at h
    split
    · rename_i h1
      rw [if_pos (.inl h1)] at h; exact h
    · rename_i h1
      split
      · rename_i h2
        rw [if_pos (.inr (.inl h2))] at h; exact h
      · rename_i h2
        obtain ⟨b, hg⟩ := lget_lt (l := seen) (i := i) (by omega) (by omega)
        refine ⟨b, hg, ?_⟩
        split
        · rename_i h3
          subst h3
          rw [if_pos (.inr (.inr hg))] at h; exact h
        · rename_i h3
          have : ¬ (i ≤ before ∨ x0.Rows ≤ i ∨ lget seen i = some true) := by
            rintro (h | h | h)
            · exact h1 h
            · exact h2 h
            · rw [hg] at h; exact h3 (Option.some.inj h)
          rw [if_neg this] at h
          rw [wrap_succ (by unfold Big at hb; omega)]
          exact inner hb r (k + 1) _ i (drop_next hd) (by rw [lset_length]; exact hs) (by omega) h
theorem outer {x0 : api_Partition} {φ : Bool → Prop} (hb : Small x0) : ∀ (cs : List (List Int)) (k : Nat) (seen : List Bool) (first : Int), x0.Classes.drop k = cs → (seen.length : Int) = x0.Rows →
    φ (okClasses x0.Rows first seen cs) → L1 x0 seen first k φ
  | [], k, seen, first, hd, hs, h => by
    apply L1_step
    have := drop_ge hd
    rw [if_neg (by omega)]
    exact h
  | c :: cs, k, seen, first, hd, hs, h => by
    apply L1_step
    have hk := drop_lt hd
    have hc : c ∈ x0.Classes := List.mem_of_getElem? (drop_get hd)
    rw [if_pos (by omega)]
    refine ⟨c, lget_drop hd, ?_⟩
    match c, hc, h, hd with
    | [], _, h, hd => simp only [List.length_nil]; exact h
    | [_], _, h, hd => simp only [List.length_singleton]; exact h
    | a :: b :: r, hc, h, hd =>
      rw [if_neg (by simp; omega)]
      refine ⟨a, by simp [lget], ?_⟩
      simp only [okClasses] at h
      split
      · rename_i h1; rw [if_pos h1] at h; exact h
      · rename_i h1
        rw [if_neg h1] at h
        refine inner (hb.2 _ hc) (a :: b :: r) 0 seen (-1) rfl hs (by omega) ?_
        cases ho : okClass x0.Rows (-1) seen (a :: b :: r) with
        | none => rw [ho] at h; exact h
        | some s =>
          rw [ho] at h
          simp only at h ⊢
          rw [wrap_succ (by have := hb.1; unfold Big at this; omega)]
          exact outer hb cs (k + 1) s a (drop_next hd) (by rw [okClass_len ho]; exact hs) h
theorem spec {x0 : api_Partition} (hb : Small x0) : C x0 (validF x0) := by
  obtain ⟨r, h1, h2⟩ := enter x0 (fun r => r = validF x0) (by
    unfold validF
    split
    · rfl
    · split
      · rfl
      · refine ⟨by omega, ?_⟩
        exact outer hb x0.Classes 0 _ (-1) rfl (by simp; omega) rfl)
  rw [← h1]; exact h2
end partition_Valid
namespace drossref08_Valid
theorem inner {x0 : api_Partition} {a4 y24 : Int} {a2 : List Int} {φ : Bool → Prop} (hb : a2.length < Big) : ∀ (r : List Int) (k : Nat) (seen : List Bool) (before : Int), a2.drop k = r → (seen.length : Int) = x0.Rows → (k = 0 → before = -1) → (0 < k → lget a2 ((k : Int) - 1) = some before ∧ 0 ≤ before) →
    (match okClass x0.Rows before seen r with
      | none => φ false
      | some s => L1 x0 s a4 (IntKind.wrap .i64 (y24 + 1)) φ) → L2 x0 seen a4 y24 a2 k φ
  | [], k, seen, before, hd, hs, hb0, hb1, h => by
    apply L2_step
    have := drop_ge hd
    rw [if_neg (by omega)]
    exact h
  | i :: r, k, seen, before, hd, hs, hb0, hb1, h => by
    apply L2_step
    have hk := drop_lt hd
    rw [if_pos (by omega)]
    refine ⟨i, lget_drop hd, ?_⟩
    simp only [okClass] at h
    have hbe : -1 ≤ before := by
      rcases Nat.eq_zero_or_pos k with h0 | h0
      · rw [hb0 h0]; omega
      · have := (hb1 h0).2; omega
    split
    · rename_i h1
      rw [if_pos (.inl (by omega))] at h; exact h
    · rename_i h1
      split
      · rename_i h2
        rw [if_pos (.inr (.inl h2))] at h; exact h
      · rename_i h2
        obtain ⟨b, hg⟩ := lget_lt (l := seen) (i := i) (by omega) (by omega)
        refine ⟨b, hg, ?_⟩
        split
        · rename_i h3
          subst h3
          rw [if_pos (.inr (.inr hg))] at h; exact h
        · rename_i h3
          have go : i > before → L3 x0 seen a4 y24 a2 k φ := fun hib => by
            have : ¬ (i ≤ before ∨ x0.Rows ≤ i ∨ lget seen i = some true) := by
              rintro (h | h | h)
              · omega
              · exact h2 h
              · rw [hg] at h; exact h3 (Option.some.inj h)
            rw [if_neg this] at h
            apply L3_step
            refine ⟨i, lget_drop hd, b, hg, ?_⟩
            rw [wrap_succ (by unfold Big at hb; omega)]
            refine inner hb r (k + 1) _ i (drop_next hd) (by rw [lset_length]; exact hs) (by omega) (fun _ => ⟨?_, by omega⟩) h
            have : ((k + 1 : Nat) : Int) - 1 = (k : Int) := by omega
            rw [this]; exact lget_drop hd
          split
          · rename_i h4
            have h5 := hb1 (by omega)
            refine ⟨before, ?_, ?_⟩
            · rw [wrap_id (by omega) (by unfold Big at hb; omega)]; exact h5.1
            · split
              · rename_i h6
                rw [if_pos (.inl h6)] at h; exact h
              · exact go (by omega)
          · rename_i h4
            have := hb0 (by omega)
            exact go (by omega)
theorem outer {x0 : api_Partition} {φ : Bool → Prop} (hb : Small x0) : ∀ (cs : List (List Int)) (k : Nat) (seen : List Bool) (first : Int), x0.Classes.drop k = cs → (seen.length : Int) = x0.Rows →
    φ (okClasses x0.Rows first seen cs) → L1 x0 seen first k φ
  | [], k, seen, first, hd, hs, h => by
    apply L1_step
    have := drop_ge hd
    rw [if_neg (by omega)]
    exact h
  | c :: cs, k, seen, first, hd, hs, h => by
    apply L1_step
    have hk := drop_lt hd
    have hc : c ∈ x0.Classes := List.mem_of_getElem? (drop_get hd)
    rw [if_pos (by omega)]
    refine ⟨c, lget_drop hd, ?_⟩
    match c, hc, h, hd with
    | [], _, h, hd => simp only [List.length_nil]; exact h
    | [_], _, h, hd => simp only [List.length_singleton]; exact h
    | a :: b :: r, hc, h, hd =>
      rw [if_neg (by simp; omega)]
      refine ⟨a, by simp [lget], ?_⟩
      simp only [okClasses] at h
      split
      · rename_i h1; rw [if_pos h1] at h; exact h
      · rename_i h1
        rw [if_neg h1] at h
        refine inner (hb.2 _ hc) (a :: b :: r) 0 seen (-1) rfl hs (fun _ => rfl) (fun h => by omega) ?_
        cases ho : okClass x0.Rows (-1) seen (a :: b :: r) with
        | none => rw [ho] at h; exact h
        | some s =>
          rw [ho] at h
          simp only at h ⊢
          rw [wrap_succ (by have := hb.1; unfold Big at this; omega)]
          exact outer hb cs (k + 1) s a (drop_next hd) (by rw [okClass_len ho]; exact hs) h
theorem spec {x0 : api_Partition} (hb : Small x0) : C x0 (validF x0) := by
  obtain ⟨r, h1, h2⟩ := enter x0 (fun r => r = validF x0) (by
    unfold validF
    split
    · rfl
    · split
      · rfl
      · refine ⟨by omega, ?_⟩
        exact outer hb x0.Classes 0 _ (-1) rfl (by simp; omega) rfl)
  rw [← h1]; exact h2
end drossref08_Valid
end Go.Own

namespace Go.Own
open Go.Proofs D
set_option maxRecDepth 100000
set_option maxHeartbeats 4000000
namespace drossref08_Labels
noncomputable def B : Code := (Tryd.f39.body).getD .skip
def W : List Nat := [0, 1, 2, 3, 4, 5, 6, 13, 24, 34]
def res (r : List Int) : D × List D := (.own (r.map (eI .i64)), [])
def C (x0 : api_Partition) (r : List Int) : Prop := Ret env 39 [.agg [.lit (.int .i64 x0.Rows), .sl (x0.Classes.map (eSl (eI .i64)))]] (res r).1 (res r).2
def L1 (x0 : api_Partition) (y3_L1 : List Int) (y4_L1 : Int) (φ : List Int → Prop) : Prop := Pt env 39 W B [1, 1, 0, 1, 0] [(0, .agg [.lit (.int .i64 x0.Rows), .sl (x0.Classes.map (eSl (eI .i64)))]), (1, .box [.lit (.int .i64 x0.Rows), .sl (x0.Classes.map (eSl (eI .i64)))]), (3, .own (y3_L1.map (eI .i64))), (4, .lit (.int .i64 y4_L1))] (Lv env 39 Tryd.f39 1 res φ)
def L2 (x0 : api_Partition) (y3_L1 : List Int) (y5_L2 : Int) (φ : List Int → Prop) : Prop := Pt env 39 W B [1, 1, 1, 0, 1, 0] [(0, .agg [.lit (.int .i64 x0.Rows), .sl (x0.Classes.map (eSl (eI .i64)))]), (1, .box [.lit (.int .i64 x0.Rows), .sl (x0.Classes.map (eSl (eI .i64)))]), (3, .own (y3_L1.map (eI .i64))), (5, .lit (.int .i64 y5_L2))] (Lv env 39 Tryd.f39 1 res φ)
def L3 (x0 : api_Partition) (y3_L1 : List Int) (y5_L3 : Int) (y6_L3 : Int) (φ : List Int → Prop) : Prop := Pt env 39 W B [1, 1, 1, 0, 1, 0, 0, 1, 0, 0, 1, 0] [(0, .agg [.lit (.int .i64 x0.Rows), .sl (x0.Classes.map (eSl (eI .i64)))]), (1, .box [.lit (.int .i64 x0.Rows), .sl (x0.Classes.map (eSl (eI .i64)))]), (3, .own (y3_L1.map (eI .i64))), (5, .lit (.int .i64 y5_L3)), (6, .lit (.int .i64 y6_L3))] (Lv env 39 Tryd.f39 1 res φ)
theorem L1_step (x0 : api_Partition) (y3_L1 : List Int) (y4_L1 : Int) (φ : List Int → Prop) (h :
    (if y4_L1 < x0.Rows then
      ∃ a2, lget y3_L1 y4_L1 = some a2 ∧
      drossref08_Labels.L1 x0 ((lset y3_L1 y4_L1 y4_L1)) ((IntKind.wrap .i64 (y4_L1 + 1))) φ
    else
      drossref08_Labels.L2 x0 y3_L1 0 φ)) : L1 x0 y3_L1 y4_L1 φ :=
 mIn <|
 mAsk 5 h dT dF (fun h =>
 mIy 7 (eI .i64) h fun a2 h3 h =>
 mSto 0 (eI .i64) y4_L1 h3 <|
 mFin 6 h) fun h =>
 mFin 6 h
theorem L2_step (x0 : api_Partition) (y3_L1 : List Int) (y5_L2 : Int) (φ : List Int → Prop) (h :
    (if y5_L2 < (x0.Classes.length : Int) then
      drossref08_Labels.L3 x0 y3_L1 y5_L2 0 φ
    else
      φ y3_L1)) : L2 x0 y3_L1 y5_L2 φ :=
 mIn <|
 mLen 5 (eSl (eI .i64)) x0.Classes <|
 mAsk 0 h dT dF (fun h =>
 mFin 6 h) fun h =>
 mRet 7 h
theorem L3_step (x0 : api_Partition) (y3_L1 : List Int) (y5_L3 : Int) (y6_L3 : Int) (φ : List Int → Prop) (h :
    ∃ a4, lget x0.Classes y5_L3 = some a4 ∧
    (if y6_L3 < (a4.length : Int) then
      ∃ a6, lget a4 y6_L3 = some a6 ∧
      ∃ a8, lget a4 0 = some a8 ∧
      ∃ a10, lget y3_L1 a6 = some a10 ∧
      drossref08_Labels.L3 x0 ((lset y3_L1 a6 a8)) y5_L3 ((IntKind.wrap .i64 (y6_L3 + 1))) φ
    else
      drossref08_Labels.L2 x0 y3_L1 ((IntKind.wrap .i64 (y5_L3 + 1))) φ)) : L3 x0 y3_L1 y5_L3 y6_L3 φ :=
 mIn <|
 mIx 6 (eSl (eI .i64)) h fun a4 h5 h =>
 mLen 1 (eI .i64) a4 <|
 mAsk 0 h dT dF (fun h =>
 mIxf 8 (eSl (eI .i64)) h5 <|
 mIx 2 (eI .i64) h fun a6 h7 h =>
 mIxf 4 (eSl (eI .i64)) h5 <|
 mIx 1 (eI .i64) h fun a8 h9 h =>
 mIy 1 (eI .i64) h fun a10 h11 h =>
 mSto 0 (eI .i64) a8 h11 <|
 mFin 6 h) fun h =>
 mFin 8 h
theorem enter (x0 : api_Partition) (φ : List Int → Prop) (h :
    (0 ≤ x0.Rows ∧ x0.Rows * 8 ≤ 281474976710656) ∧
    drossref08_Labels.L1 x0 ((List.replicate x0.Rows.toNat (0 : Int))) 0 φ) : ∃ r, φ r ∧ C x0 r :=
 mEnt (fd := Tryd.f39) (body := B) (V := W) (res := res) <|
 h.elim fun h1 h =>
 mVl 7 (val_make (t := 38) (x := (.tmp 8)) (y := (.tmp 8)) (q := .i64) (i := x0.Rows) (et := 3) (z := .lit (.int .i64 0)) (e := (eI .i64)) (a := (0 : Int)) (k := 8) (by kernel_rfl) (by kernel_rfl) (by kernel_rfl) (by kernel_rfl) (by kernel_rfl) (by kernel_rfl) (by kernel_rfl) (by kernel_rfl) (by kernel_rfl) (by kernel_rfl) h1.1 h1.2) <|
 mFin 5 h
end drossref08_Labels
end Go.Own

namespace Go.Own
def free : List Bool → Nat
  | [] => 0
  | b :: l => (if b then 0 else 1) + free l
theorem free_replicate (n : Nat) : free (List.replicate n false) = n := by
  induction n with
  | zero => rfl
  | succ n ih => simp only [List.replicate_succ, free, ih]; simp; omega
theorem free_set : ∀ {l : List Bool} {n : Nat}, l[n]? = some false → free (l.set n true) + 1 = free l
  | [], n, h => by simp at h
  | b :: l, 0, h => by simp at h; subst h; simp [free]; omega
  | b :: l, n + 1, h => by
    simp only [List.getElem?_cons_succ] at h
    have := free_set h
    simp only [List.set_cons_succ, free]; omega
theorem free_lset {l : List Bool} {i : Int} (h : lget l i = some false) : free (lset l i true) + 1 = free l := free_set (lget_some h).2
theorem okClass_inv {rows : Int} : ∀ {r : List Int} {i b : Int} {s s' : List Bool}, -1 ≤ b → (s.length : Int) = rows → okClass rows b s (i :: r) = some s' → b < i ∧ i < rows ∧ lget s i = some false ∧ okClass rows i (lset s i true) r = some s' := by
  intro r i b s s' hb hs h
  simp only [okClass] at h
  split at h
  · cases h
  · rename_i h1
    simp only [not_or] at h1
    obtain ⟨x, hx⟩ := lget_lt (l := s) (i := i) (by omega) (by omega)
    refine ⟨by omega, by omega, ?_, h⟩
    rw [hx] at h1 ⊢
    cases x with
    | true => exact absurd rfl h1.2.2
    | false => rfl
theorem okClass_free {rows : Int} : ∀ {r : List Int} {b : Int} {s s' : List Bool}, -1 ≤ b → (s.length : Int) = rows → okClass rows b s r = some s' → free s' + r.length = free s
  | [], b, s, s', hb, hs, h => by simp [okClass] at h; simp [h]
  | i :: r, b, s, s', hb, hs, h => by
    obtain ⟨h1, h2, h3, h4⟩ := okClass_inv hb hs h
    have := okClass_free (by omega) (by rw [lset_length]; exact hs) h4
    have h5 := free_lset h3
    simp only [List.length_cons]; omega
def extra : List (List Int) → Int
  | [] => 0
  | c :: cs => ((c.length : Int) - 1) + extra cs
theorem okClasses_inv {rows first : Int} {s : List Bool} {c : List Int} {cs : List (List Int)} (h : okClasses rows first s (c :: cs) = true) : ∃ a b r s', c = a :: b :: r ∧ first < a ∧ okClass rows (-1) s c = some s' ∧ okClasses rows a s' cs = true := by
  match c, h with
  | [], h => simp [okClasses] at h
  | [_], h => simp [okClasses] at h
  | a :: b :: r, h =>
    simp only [okClasses] at h
    split at h
    · cases h
    · rename_i h1
      cases ho : okClass rows (-1) s (a :: b :: r) with
      | none => rw [ho] at h; cases h
      | some s' => rw [ho] at h; exact ⟨a, b, r, s', rfl, by omega, rfl, h⟩
theorem extra_free {rows : Int} : ∀ {cs : List (List Int)} {first : Int} {s : List Bool}, (s.length : Int) = rows → okClasses rows first s cs = true → 0 ≤ extra cs ∧ extra cs ≤ free s
  | [], _, _, _, _ => by simp [extra]
  | c :: cs, first, s, hs, h => by
    obtain ⟨a, b, r, s', hc, h1, h2, h3⟩ := okClasses_inv h
    have h4 := okClass_free (by omega) hs h2
    have h5 := extra_free (by rw [okClass_len h2]; exact hs) h3
    subst hc
    simp only [extra, List.length_cons] at h4 ⊢
    omega
def rankF (p : api_Partition) : Int := if validF p then p.Rows - extra p.Classes else 0
theorem valid_ok {p : api_Partition} (h : validF p = true) : 0 ≤ p.Rows ∧ p.Rows ≤ 1000 ∧ okClasses p.Rows (-1) (List.replicate p.Rows.toNat false) p.Classes = true := by
  unfold validF at h
  split at h
  · cases h
  · split at h
    · cases h
    · exact ⟨by omega, by omega, h⟩
def iota (n : Nat) : List Int := (List.range n).map fun (k : Nat) => (k : Int)
theorem iota_get {n k : Nat} (h : k < n) : (iota n)[k]? = some (k : Int) := by simp [iota, h]
def labClass (a : Int) : List Int → List Int → List Int
  | l, [] => l
  | l, i :: r => labClass a (lset l i a) r
def labCl : List Int → List (List Int) → List Int
  | l, [] => l
  | l, [] :: cs => labCl l cs
  | l, (a :: r) :: cs => labCl (labClass a l (a :: r)) cs
def labF (p : api_Partition) : List Int := labCl (iota p.Rows.toNat) p.Classes
theorem labClass_len {a : Int} : ∀ {l r : List Int}, (labClass a l r).length = l.length
  | _, [] => rfl
  | l, i :: r => by simp only [labClass]; rw [labClass_len, lset_length]
theorem labCl_len : ∀ {l : List Int} {cs : List (List Int)}, (labCl l cs).length = l.length
  | _, [] => rfl
  | l, [] :: cs => by simp only [labCl]; exact labCl_len
  | l, (a :: r) :: cs => by simp only [labCl]; rw [labCl_len, labClass_len]
theorem iota_len {n : Nat} : (iota n).length = n := by simp [iota]
namespace drossref08_Labels
theorem fill {x0 : api_Partition} {φ : List Int → Prop} (h0 : 0 ≤ x0.Rows) (h1 : x0.Rows ≤ 1000) (hL : L2 x0 (iota x0.Rows.toNat) 0 φ) : ∀ (m k : Nat), k + m = x0.Rows.toNat → L1 x0 (iota k ++ List.replicate m 0) k φ
  | 0, k, hk => by
    apply L1_step
    rw [if_neg (by omega)]
    have : k = x0.Rows.toNat := by omega
    simpa [this] using hL
  | m + 1, k, hk => by
    apply L1_step
    rw [if_pos (by omega)]
    have hl : (iota k).length = k := iota_len
    refine ⟨0, ?_, ?_⟩
    · rw [lget_nat, List.getElem?_append_right (by omega)]
      simp [hl]
    · rw [wrap_succ (by omega)]
      have : lset (iota k ++ List.replicate (m + 1) 0) (k : Int) (k : Int) = iota (k + 1) ++ List.replicate m 0 := by
        unfold lset
        rw [Int.toNat_natCast, List.set_append_right _ _ (by omega), hl, Nat.sub_self, List.replicate_succ, List.set_cons_zero]
        simp [iota, List.range_succ]
      rw [this]
      exact fill h0 h1 hL m (k + 1) (by omega)
theorem inner {x0 : api_Partition} {φ : List Int → Prop} {c : List Int} {a : Int} {j : Nat} (hc : x0.Classes[j]? = some c) (ha : c[0]? = some a) (hb : c.length < Big) (hj : j + 1 < Big) : ∀ (r : List Int) (k : Nat) (l : List Int) (b : Int) (s s' : List Bool), c.drop k = r → -1 ≤ b → l.length = s.length → (s.length : Int) = x0.Rows → okClass x0.Rows b s r = some s' →
    L2 x0 (labClass a l r) ((j + 1 : Nat) : Int) φ → L3 x0 l j k φ
  | [], k, l, b, s, s', hd, hbb, hl, hs, ho, h => by
    apply L3_step
    refine ⟨c, by rw [lget_nat]; exact hc, ?_⟩
    have := drop_ge hd
    rw [if_neg (by omega), wrap_succ hj]
    exact h
  | i :: r, k, l, b, s, s', hd, hbb, hl, hs, ho, h => by
    obtain ⟨h1, h2, h3, h4⟩ := okClass_inv hbb hs ho
    apply L3_step
    have hk := drop_lt hd
    refine ⟨c, by rw [lget_nat]; exact hc, ?_⟩
    rw [if_pos (by omega)]
    obtain ⟨x, hx⟩ := lget_lt (l := l) (i := i) (by omega) (by omega)
    refine ⟨i, lget_drop hd, a, by have := lget_nat (l := c) (k := 0); rw [ha] at this; exact this, x, hx, ?_⟩
    rw [wrap_succ (by unfold Big at hb; omega)]
    exact inner hc ha hb hj r (k + 1) _ i _ s' (drop_next hd) (by omega) (by rw [lset_length, lset_length]; exact hl) (by rw [lset_length]; exact hs) h4 h
theorem outer {x0 : api_Partition} {φ : List Int → Prop} (hb : Small x0) : ∀ (cs : List (List Int)) (k : Nat) (l : List Int) (first : Int) (s : List Bool), x0.Classes.drop k = cs → l.length = s.length → (s.length : Int) = x0.Rows → okClasses x0.Rows first s cs = true →
    φ (labCl l cs) → L2 x0 l k φ
  | [], k, l, first, s, hd, hl, hs, ho, h => by
    apply L2_step
    have := drop_ge hd
    rw [if_neg (by omega)]
    exact h
  | c :: cs, k, l, first, s, hd, hl, hs, ho, h => by
    obtain ⟨a, b, t, s', hc, h4, h5, h6⟩ := okClasses_inv ho
    apply L2_step
    have hk := drop_lt hd
    rw [if_pos (by omega)]
    have hcg := drop_get hd
    subst hc
    refine inner hcg (a := a) rfl (hb.2 _ (List.mem_of_getElem? hcg)) (by have := hb.1; omega) (a :: b :: t) 0 l (-1) s s' rfl (by omega) hl hs h5 ?_
    exact outer hb cs (k + 1) _ a s' (drop_next hd) (by rw [labClass_len, okClass_len h5]; exact hl) (by rw [okClass_len h5]; exact hs) h6 h
theorem spec {x0 : api_Partition} (hb : Small x0) (hv : validF x0 = true) : C x0 (labF x0) := by
  obtain ⟨v1, v2, v3⟩ := valid_ok hv
  obtain ⟨r, h1, h2⟩ := enter x0 (fun r => r = labF x0) (by
    refine ⟨by omega, ?_⟩
    have := fill (φ := fun r => r = labF x0) v1 v2 (outer hb x0.Classes 0 _ (-1) (List.replicate x0.Rows.toNat false) rfl (by rw [iota_len]; simp) (by simp; omega) v3 rfl) x0.Rows.toNat 0 (by omega)
    simpa [iota] using this)
  rw [← h1]; exact h2
end drossref08_Labels
def cnt : Nat → List Int → Int
  | _, [] => 0
  | k, x :: l => (if x = (k : Int) then 1 else 0) + cnt (k + 1) l
theorem cnt_set {a : Int} : ∀ {l : List Int} {n k : Nat}, l[n]? = some ((k + n : Nat) : Int) → cnt k (l.set n a) = cnt k l - (if a = ((k + n : Nat) : Int) then 0 else 1)
  | [], n, k, h => by simp at h
  | x :: l, 0, k, h => by
    simp only [List.getElem?_cons_zero, Nat.add_zero, Option.some.injEq] at h
    simp only [List.set_cons_zero, cnt, Nat.add_zero, h, if_true]
    split <;> omega
  | x :: l, n + 1, k, h => by
    simp only [List.getElem?_cons_succ] at h
    have := cnt_set (a := a) (l := l) (n := n) (k := k + 1) (by rw [h]; congr 2; omega)
    have e : k + 1 + n = k + (n + 1) := by omega
    rw [e] at this
    simp only [List.set_cons_succ, cnt, this]; omega
def SelfIn (l : List Int) (s : List Bool) : Prop := l.length = s.length ∧ ∀ n : Nat, s[n]? = some false → l[n]? = some (n : Int)
theorem SelfIn.step {l : List Int} {s : List Bool} {i a : Int} (h : SelfIn l s) (hi : lget s i = some false) : SelfIn (lset l i a) (lset s i true) ∧ cnt 0 (lset l i a) = cnt 0 l - (if a = i then 0 else 1) := by
  obtain ⟨h0, h1⟩ := lget_some hi
  have h2 := h.2 _ h1
  refine ⟨⟨by rw [lset_length, lset_length]; exact h.1, fun n hn => ?_⟩, ?_⟩
  · unfold lset at hn ⊢
    by_cases he : i.toNat = n
    · subst he
      rw [List.getElem?_set_self (List.getElem?_eq_some_iff.1 h1).1] at hn
      cases hn
    · rw [List.getElem?_set_ne he] at hn ⊢
      exact h.2 n hn
  · have := cnt_set (a := a) (l := l) (n := i.toNat) (k := 0) (by rw [Nat.zero_add]; exact h2)
    unfold lset
    rw [this, Nat.zero_add, Int.toNat_of_nonneg h0]
theorem lab_cnt {rows a : Int} : ∀ {r : List Int} {b : Int} {l : List Int} {s s' : List Bool}, -1 ≤ b → a ≤ b → (s.length : Int) = rows → SelfIn l s → okClass rows b s r = some s' → SelfIn (labClass a l r) s' ∧ cnt 0 (labClass a l r) = cnt 0 l - r.length
  | [], b, l, s, s', hb, hab, hs, hl, h => by
    simp only [okClass, Option.some.injEq] at h
    subst h
    exact ⟨hl, by simp [labClass]⟩
  | i :: r, b, l, s, s', hb, hab, hs, hl, h => by
    obtain ⟨h1, h2, h3, h4⟩ := okClass_inv hb hs h
    obtain ⟨k1, k2⟩ := hl.step (a := a) h3
    obtain ⟨m1, m2⟩ := lab_cnt (a := a) (b := i) (by omega) (by omega) (by rw [lset_length]; exact hs) k1 h4
    refine ⟨m1, ?_⟩
    simp only [labClass, List.length_cons]
    rw [m2, k2, if_neg (by omega)]
    omega
theorem labCl_cnt {rows : Int} : ∀ {cs : List (List Int)} {first : Int} {l : List Int} {s : List Bool}, (s.length : Int) = rows → SelfIn l s → okClasses rows first s cs = true → cnt 0 (labCl l cs) = cnt 0 l - extra cs
  | [], first, l, s, hs, hl, h => by simp [labCl, extra]
  | c :: cs, first, l, s, hs, hl, h => by
    obtain ⟨a, b, t, s', hc, h4, h5, h6⟩ := okClasses_inv h
    subst hc
    obtain ⟨h1, h2, h3, h7⟩ := okClass_inv (by omega) hs h5
    obtain ⟨k1, k2⟩ := hl.step (a := a) h3
    obtain ⟨m1, m2⟩ := lab_cnt (a := a) (b := a) (by omega) (by omega) (by rw [lset_length]; exact hs) k1 h7
    have := labCl_cnt (by rw [okClass_len h5]; exact hs) m1 h6
    have e : labCl l ((a :: b :: t) :: cs) = labCl (labClass a (lset l a a) (b :: t)) cs := rfl
    rw [e, this, m2, k2, if_pos rfl]
    simp only [extra, List.length_cons]; omega
theorem cnt_iota : ∀ (n k : Nat) , cnt k ((List.range' k n).map fun (j : Nat) => (j : Int)) = n
  | 0, k => by simp [cnt]
  | n + 1, k => by
    simp only [List.range'_succ, List.map_cons, cnt, if_true]
    rw [cnt_iota n (k + 1)]; omega
theorem labF_cnt {p : api_Partition} (hv : validF p = true) : cnt 0 (labF p) = p.Rows - extra p.Classes := by
  obtain ⟨v1, v2, v3⟩ := valid_ok hv
  unfold labF
  rw [labCl_cnt (rows := p.Rows) (s := List.replicate p.Rows.toNat false) (by simp; omega) ⟨by rw [iota_len]; simp, fun n hn => ?_⟩ v3]
  · have := cnt_iota p.Rows.toNat 0
    rw [← List.range_eq_range'] at this
    unfold iota
    rw [this]; omega
  · exact iota_get (by have := (List.getElem?_eq_some_iff.1 hn).1; simpa using this)
end Go.Own

namespace Go.Own
def marks (s : List Bool) (r : List Int) : List Bool := r.foldl (fun s i => lset s i true) s
theorem marks_len : ∀ {r : List Int} {s : List Bool}, (marks s r).length = s.length
  | [], _ => rfl
  | i :: r, s => by
    show (marks (lset s i true) r).length = _
    rw [marks_len, lset_length]
theorem marks_get : ∀ {r : List Int} {s : List Bool} {j : Int}, (∀ i ∈ r, 0 ≤ i ∧ i < s.length) → 0 ≤ j → j < s.length → lget (marks s r) j = if j ∈ r then some true else lget s j
  | [], _, _, _, _, _ => by simp [marks]
  | i :: r, s, j, h, hj, hjs => by
    show lget (marks (lset s i true) r) j = _
    have hi := h i (by simp)
    rw [marks_get (fun k hk => by rw [lset_length]; exact h k (by simp [hk])) hj (by rw [lset_length]; exact hjs)]
    by_cases h1 : j ∈ r
    · simp [h1]
    · rw [if_neg h1, lget_lset hi.1 hj]
      by_cases h2 : i = j
      · subst h2; simp [hi.2]
      · rw [if_neg h2, if_neg]
        simp only [List.mem_cons, not_or]
        exact ⟨fun h => h2 h.symm, h1⟩
theorem okClass_iff {rows : Int} : ∀ {r : List Int} {b : Int} {s s' : List Bool}, -1 ≤ b → (s.length : Int) = rows → (okClass rows b s r = some s' ↔ (b :: r).Pairwise (· < ·) ∧ (∀ i ∈ r, i < rows ∧ lget s i = some false) ∧ s' = marks s r)
  | [], b, s, s', hb, hs => by simp [okClass, marks, eq_comm]
  | i :: r, b, s, s', hb, hs => by
    constructor
    · intro h
      obtain ⟨h1, h2, h3, h4⟩ := okClass_inv hb hs h
      obtain ⟨k1, k2, k3⟩ := (okClass_iff (by omega) (by rw [lset_length]; exact hs)).1 h4
      have k4 := List.pairwise_cons.1 k1
      refine ⟨List.pairwise_cons.2 ⟨fun j hj => ?_, k1⟩, fun j hj => ?_, k3⟩
      · rcases List.mem_cons.1 hj with rfl | hj
        · exact h1
        · have := k4.1 j hj; omega
      · rcases List.mem_cons.1 hj with rfl | hj
        · exact ⟨h2, h3⟩
        · have h5 := k4.1 j hj
          have h6 := k2 j hj
          rw [lget_lset (by omega) (by omega), if_neg (by omega)] at h6
          exact h6
    · rintro ⟨h1, h2, h3⟩
      have k1 := List.pairwise_cons.1 h1
      have k2 := List.pairwise_cons.1 k1.2
      have hbi := k1.1 i (by simp)
      have hi := h2 i (by simp)
      simp only [okClass]
      rw [if_neg (by
        rintro (h | h | h)
        · omega
        · omega
        · rw [hi.2] at h; cases h)]
      refine (okClass_iff (by omega) (by rw [lset_length]; exact hs)).2 ⟨k1.2, fun j hj => ?_, h3⟩
      have h5 := k2.1 j hj
      rw [lget_lset (by omega) (by omega), if_neg (by omega)]
      exact h2 j (by simp [hj])
structure CP (rows : Int) (cs : List (List Int)) : Prop where
  two : ∀ c ∈ cs, 2 ≤ c.length
  inc : ∀ c ∈ cs, c.Pairwise (· < ·)
  inn : ∀ c ∈ cs, ∀ i ∈ c, 0 ≤ i ∧ i < rows
  heads : cs.Pairwise fun c d => c.headD 0 < d.headD 0
  disj : cs.Pairwise fun c d => ∀ i ∈ c, i ∉ d
theorem okClasses_iff {rows : Int} : ∀ {cs : List (List Int)} {first : Int} {s : List Bool}, -1 ≤ first → (s.length : Int) = rows → (okClasses rows first s cs = true ↔ CP rows cs ∧ (∀ c ∈ cs, first < c.headD 0) ∧ ∀ c ∈ cs, ∀ i ∈ c, lget s i = some false)
  | [], first, s, hf, hs => by
    simp only [okClasses, true_iff]
    exact ⟨⟨by simp, by simp, by simp, by simp, by simp⟩, by simp, by simp⟩
  | c :: cs, first, s, hf, hs => by
    constructor
    · intro h
      obtain ⟨a, b, t, s', hc, h1, h2, h3⟩ := okClasses_inv h
      obtain ⟨m1, m2, m3⟩ := (okClass_iff (by omega) hs).1 h2
      have hin : ∀ i ∈ c, 0 ≤ i ∧ i < rows := fun i hi => by
        have := (List.pairwise_cons.1 m1).1 i hi
        exact ⟨by omega, (m2 i hi).1⟩
      have hs' : (s'.length : Int) = rows := by rw [m3, marks_len]; exact hs
      have ha : 0 ≤ a := (hin a (by rw [hc]; simp)).1
      obtain ⟨n1, n2, n3⟩ := (okClasses_iff (by omega) hs').1 h3
      have key : ∀ d ∈ cs, ∀ i ∈ d, i ∉ c ∧ lget s i = some false := fun d hd i hi => by
        have h5 := n3 d hd i hi
        have h6 := n1.inn d hd i hi
        rw [m3, marks_get (fun k hk => by have := hin k hk; omega) h6.1 (by omega)] at h5
        by_cases hic : i ∈ c
        · rw [if_pos hic] at h5; cases h5
        · rw [if_neg hic] at h5; exact ⟨hic, h5⟩
      refine ⟨⟨?_, ?_, ?_, ?_, ?_⟩, ?_, ?_⟩
      · intro d hd
        rcases List.mem_cons.1 hd with rfl | hd
        · rw [hc]; simp
        · exact n1.two d hd
      · intro d hd
        rcases List.mem_cons.1 hd with rfl | hd
        · exact (List.pairwise_cons.1 m1).2
        · exact n1.inc d hd
      · intro d hd
        rcases List.mem_cons.1 hd with rfl | hd
        · exact hin
        · exact n1.inn d hd
      · refine List.pairwise_cons.2 ⟨fun d hd => ?_, n1.heads⟩
        have := n2 d hd
        rw [hc]; exact this
      · exact List.pairwise_cons.2 ⟨fun d hd i hi hid => (key d hd i hid).1 hi, n1.disj⟩
      · intro d hd
        rcases List.mem_cons.1 hd with rfl | hd
        · rw [hc]; exact h1
        · have := n2 d hd; omega
      · intro d hd i hi
        rcases List.mem_cons.1 hd with rfl | hd
        · exact (m2 i hi).2
        · exact (key d hd i hi).2
    · rintro ⟨⟨p1, p2, p3, p4, p5⟩, q1, q2⟩
      match c, p1 c (by simp), p1, p2, p3, p4, p5, q1, q2 with
      | a :: b :: t, _, p1, p2, p3, p4, p5, q1, q2 =>
        have ho : okClass rows (-1) s (a :: b :: t) = some (marks s (a :: b :: t)) := (okClass_iff (by omega) hs).2 ⟨List.pairwise_cons.2 ⟨fun i hi => by have := (p3 _ (by simp) i hi).1; omega, p2 _ (by simp)⟩, fun i hi => ⟨(p3 _ (by simp) i hi).2, q2 _ (by simp) i hi⟩, rfl⟩
        have ha := p3 (a :: b :: t) (by simp) a (by simp)
        simp only [okClasses]
        rw [if_neg (by have := q1 (a :: b :: t) (by simp); simp at this; omega), ho]
        refine (okClasses_iff (by omega) (by rw [marks_len]; exact hs)).2 ⟨⟨fun d hd => p1 d (by simp [hd]), fun d hd => p2 d (by simp [hd]), fun d hd => p3 d (by simp [hd]), (List.pairwise_cons.1 p4).2, (List.pairwise_cons.1 p5).2⟩, fun d hd => ?_, fun d hd i hi => ?_⟩
        · exact (List.pairwise_cons.1 p4).1 d hd
        · have h6 := p3 d (by simp [hd]) i hi
          rw [marks_get (fun k hk => by have := p3 (a :: b :: t) (by simp) k hk; omega) h6.1 (by omega), if_neg]
          · exact q2 d (by simp [hd]) i hi
          · exact fun hic => (List.pairwise_cons.1 p5).1 d hd i hic hi
theorem valid_iff {p : api_Partition} : validF p = true ↔ 0 ≤ p.Rows ∧ p.Rows ≤ 1000 ∧ CP p.Rows p.Classes := by
  constructor
  · intro h
    obtain ⟨h1, h2, h3⟩ := valid_ok h
    exact ⟨h1, h2, ((okClasses_iff (by omega) (by simp; omega)).1 h3).1⟩
  · rintro ⟨h1, h2, h3⟩
    unfold validF
    rw [if_neg (by omega), if_neg (by omega)]
    refine (okClasses_iff (by omega) (by simp; omega)).2 ⟨h3, fun c hc => ?_, fun c hc i hi => ?_⟩
    · have h4 := h3.two c hc
      match c, h4, hc with
      | a :: t, _, hc => have := h3.inn _ hc a (by simp); simp; omega
    · have := h3.inn c hc i hi
      simp only [lget, if_pos this.1, List.getElem?_replicate]
      rw [if_pos (by omega)]
def Same (p : api_Partition) (i j : Int) : Prop := i = j ∨ ∃ c ∈ p.Classes, i ∈ c ∧ j ∈ c
theorem CP.uniq {rows : Int} {cs : List (List Int)} (h : CP rows cs) {c d : List Int} (hc : c ∈ cs) (hd : d ∈ cs) {i : Int} (hi : i ∈ c) (hj : i ∈ d) : c = d := by
  rcases List.mem_iff_getElem.1 hc with ⟨m, hm, rfl⟩
  rcases List.mem_iff_getElem.1 hd with ⟨n, hn, rfl⟩
  rcases Nat.lt_trichotomy m n with h1 | h1 | h1
  · exact absurd hj (List.pairwise_iff_getElem.1 h.disj m n hm hn h1 i hi)
  · subst h1; rfl
  · exact absurd hi (List.pairwise_iff_getElem.1 h.disj n m hn hm h1 i hj)
theorem labClass_get {a : Int} : ∀ {r : List Int} {l : List Int} {j : Int}, (∀ i ∈ r, 0 ≤ i ∧ i < l.length) → 0 ≤ j → j < l.length → lget (labClass a l r) j = if j ∈ r then some a else lget l j
  | [], _, _, _, _, _ => by simp [labClass]
  | i :: r, l, j, h, hj, hjl => by
    have hi := h i (by simp)
    simp only [labClass]
    rw [labClass_get (fun k hk => by rw [lset_length]; exact h k (by simp [hk])) hj (by rw [lset_length]; exact hjl)]
    by_cases h1 : j ∈ r
    · simp [h1]
    · rw [if_neg h1, lget_lset hi.1 hj]
      by_cases h2 : i = j
      · subst h2; simp [hi.2]
      · rw [if_neg h2, if_neg]
        simp only [List.mem_cons, not_or]
        exact ⟨fun h => h2 h.symm, h1⟩
def layAll : List (Int × List Int) → List Int → List Int
  | [], l => l
  | (a, c) :: r, l => layAll r (labClass a l c)
theorem layAll_len : ∀ {r : List (Int × List Int)} {l : List Int}, (layAll r l).length = l.length
  | [], _ => rfl
  | (a, c) :: r, l => by simp only [layAll]; rw [layAll_len, labClass_len]
theorem layAll_out : ∀ {r : List (Int × List Int)} {l : List Int} {j : Int}, (∀ x ∈ r, ∀ i ∈ x.2, 0 ≤ i ∧ i < l.length) → 0 ≤ j → j < l.length → (∀ x ∈ r, j ∉ x.2) → lget (layAll r l) j = lget l j
  | [], _, _, _, _, _, _ => rfl
  | (a, c) :: r, l, j, h, hj, hjl, hn => by
    simp only [layAll]
    rw [layAll_out (fun x hx => by rw [labClass_len]; exact h x (by simp [hx])) hj (by rw [labClass_len]; exact hjl) (fun x hx => hn x (by simp [hx])), labClass_get (h (a, c) (by simp)) hj hjl, if_neg (hn (a, c) (by simp))]
theorem layAll_in : ∀ {r : List (Int × List Int)} {l : List Int} {j : Int} {x : Int × List Int}, (∀ x ∈ r, ∀ i ∈ x.2, 0 ≤ i ∧ i < l.length) → 0 ≤ j → j < l.length → r.Pairwise (fun x y => ∀ i ∈ x.2, i ∉ y.2) → x ∈ r → j ∈ x.2 → lget (layAll r l) j = some x.1
  | [], _, _, _, _, _, _, _, hx, _ => by cases hx
  | (a, c) :: r, l, j, x, h, hj, hjl, hp, hx, hjx => by
    simp only [layAll]
    have hp' := List.pairwise_cons.1 hp
    rcases List.mem_cons.1 hx with rfl | hx
    · rw [layAll_out (fun x hx => by rw [labClass_len]; exact h x (by simp [hx])) hj (by rw [labClass_len]; exact hjl) (fun y hy => hp'.1 y hy j hjx), labClass_get (h (a, c) (by simp)) hj hjl, if_pos hjx]
    · exact layAll_in (fun x hx => by rw [labClass_len]; exact h x (by simp [hx])) hj (by rw [labClass_len]; exact hjl) hp'.2 hx hjx
theorem labCl_lay : ∀ {cs : List (List Int)} {l : List Int}, (∀ c ∈ cs, 2 ≤ c.length) → labCl l cs = layAll (cs.map fun c => (c.headD 0, c)) l
  | [], _, _ => rfl
  | [] :: cs, l, h => by have := h [] (by simp); simp at this
  | (a :: r) :: cs, l, h => by
    simp only [labCl, List.map_cons, List.headD_cons, layAll]
    exact labCl_lay fun c hc => h c (by simp [hc])
theorem labF_out {p : api_Partition} (hv : validF p = true) {i : Int} (h0 : 0 ≤ i) (h1 : i < p.Rows) (hn : ∀ c ∈ p.Classes, i ∉ c) : lget (labF p) i = some i := by
  obtain ⟨v1, v2, v3⟩ := valid_iff.1 hv
  unfold labF
  rw [labCl_lay v3.two, layAll_out (fun x hx => ?_) h0 (by rw [iota_len]; omega) (fun x hx => ?_)]
  · simp only [lget, if_pos h0]
    rw [iota_get (by omega)]
    congr 1; omega
  · obtain ⟨c, hc, rfl⟩ := List.mem_map.1 hx
    intro j hj
    have := v3.inn c hc j hj
    rw [iota_len]; omega
  · obtain ⟨c, hc, rfl⟩ := List.mem_map.1 hx
    exact hn c hc
theorem labF_in {p : api_Partition} (hv : validF p = true) {i : Int} {c : List Int} (hc : c ∈ p.Classes) (hi : i ∈ c) : lget (labF p) i = some (c.headD 0) := by
  obtain ⟨v1, v2, v3⟩ := valid_iff.1 hv
  have hin := v3.inn c hc i hi
  unfold labF
  rw [labCl_lay v3.two]
  refine layAll_in (x := (c.headD 0, c)) (fun x hx => ?_) hin.1 (by rw [iota_len]; omega) ?_ (List.mem_map.2 ⟨c, hc, rfl⟩) hi
  · obtain ⟨c, hc, rfl⟩ := List.mem_map.1 hx
    intro j hj
    have := v3.inn c hc j hj
    rw [iota_len]; omega
  · exact List.pairwise_map.2 v3.disj
theorem headD_mem {c : List Int} (h : 2 ≤ c.length) : c.headD 0 ∈ c := by
  match c, h with
  | a :: t, _ => simp
theorem labF_len {p : api_Partition} : (labF p).length = p.Rows.toNat := by unfold labF; rw [labCl_len, iota_len]
theorem labF_same {p : api_Partition} (hv : validF p = true) {i j : Int} (hi : 0 ≤ i ∧ i < p.Rows) (hj : 0 ≤ j ∧ j < p.Rows) : lget (labF p) i = lget (labF p) j ↔ Same p i j := by
  obtain ⟨v1, v2, v3⟩ := valid_iff.1 hv
  constructor
  · intro h
    by_cases hic : ∃ c ∈ p.Classes, i ∈ c
    · obtain ⟨c, hc, hic⟩ := hic
      rw [labF_in hv hc hic] at h
      by_cases hjc : ∃ d ∈ p.Classes, j ∈ d
      · obtain ⟨d, hd, hjd⟩ := hjc
        rw [labF_in hv hd hjd] at h
        have h2 := Option.some.inj h
        have h3 := headD_mem (v3.two c hc)
        rw [h2] at h3
        have := v3.uniq hc hd h3 (headD_mem (v3.two d hd))
        subst this
        exact .inr ⟨c, hc, hic, hjd⟩
      · rw [labF_out hv hj.1 hj.2 (fun c hc hjc' => hjc ⟨c, hc, hjc'⟩)] at h
        have h2 := Option.some.inj h
        exact absurd ⟨c, hc, by rw [← h2]; exact headD_mem (v3.two c hc)⟩ hjc
    · rw [labF_out hv hi.1 hi.2 (fun c hc hic' => hic ⟨c, hc, hic'⟩)] at h
      by_cases hjc : ∃ d ∈ p.Classes, j ∈ d
      · obtain ⟨d, hd, hjd⟩ := hjc
        rw [labF_in hv hd hjd] at h
        have h2 := Option.some.inj h
        exact absurd ⟨d, hd, by rw [h2]; exact headD_mem (v3.two d hd)⟩ hic
      · rw [labF_out hv hj.1 hj.2 (fun c hc hjc' => hjc ⟨c, hc, hjc'⟩)] at h
        exact .inl (Option.some.inj h)
  · rintro (rfl | ⟨c, hc, h1, h2⟩)
    · rfl
    · rw [labF_in hv hc h1, labF_in hv hc h2]
end Go.Own

namespace Go.Own
open Go.Proofs D
set_option maxRecDepth 100000
set_option maxHeartbeats 4000000
namespace partition_labels
noncomputable def B : Code := (Tryd.f41.body).getD .skip
def W : List Nat := [0, 1, 2, 3, 4, 5, 6, 8, 13, 14, 15, 24, 25, 26, 27, 31, 32, 33, 34]
def res (r : List Int) : D × List D := (.own (r.map (eI .i64)), [])
def C (x0 : api_Partition) (r : List Int) : Prop := Ret env 41 [.agg [.lit (.int .i64 x0.Rows), .sl (x0.Classes.map (eSl (eI .i64)))]] (res r).1 (res r).2
def L1 (x0 : api_Partition) (y3_L1 : List Int) (y14_L1 : Int) (φ : List Int → Prop) : Prop := Pt env 41 W B [1, 1, 0, 1, 0] [(0, .agg [.lit (.int .i64 x0.Rows), .sl (x0.Classes.map (eSl (eI .i64)))]), (1, .box [.lit (.int .i64 x0.Rows), .sl (x0.Classes.map (eSl (eI .i64)))]), (3, .own (y3_L1.map (eI .i64))), (13, .lit (.int .i64 (((List.replicate x0.Rows.toNat (0 : Int)).length : Int)))), (14, .lit (.int .i64 y14_L1))] (Lv env 41 Tryd.f41 1 res φ)
def L2 (x0 : api_Partition) (y3_L1 : List Int) (y26_L2 : Int) (φ : List Int → Prop) : Prop := Pt env 41 W B [1, 1, 1, 0, 1, 0] [(0, .agg [.lit (.int .i64 x0.Rows), .sl (x0.Classes.map (eSl (eI .i64)))]), (1, .box [.lit (.int .i64 x0.Rows), .sl (x0.Classes.map (eSl (eI .i64)))]), (3, .own (y3_L1.map (eI .i64))), (24, .sl (x0.Classes.map (eSl (eI .i64)))), (25, .lit (.int .i64 ((x0.Classes.length : Int)))), (26, .lit (.int .i64 y26_L2))] (Lv env 41 Tryd.f41 1 res φ)
def L3 (x0 : api_Partition) (y3_L1 : List Int) (y5_L3 : Int) (a4 : List Int) (y26_L3 : Int) (y33_L3 : Int) (φ : List Int → Prop) : Prop := Pt env 41 W B [1, 1, 1, 0, 1, 0, 0, 1, 1, 0, 0, 1, 1, 0] [(0, .agg [.lit (.int .i64 x0.Rows), .sl (x0.Classes.map (eSl (eI .i64)))]), (1, .box [.lit (.int .i64 x0.Rows), .sl (x0.Classes.map (eSl (eI .i64)))]), (3, .own (y3_L1.map (eI .i64))), (5, .lit (.int .i64 y5_L3)), (6, .sl (a4.map (eI .i64))), (24, .sl (x0.Classes.map (eSl (eI .i64)))), (25, .lit (.int .i64 ((x0.Classes.length : Int)))), (26, .lit (.int .i64 y26_L3)), (31, .sl (a4.map (eI .i64))), (32, .lit (.int .i64 ((a4.length : Int)))), (33, .lit (.int .i64 y33_L3))] (Lv env 41 Tryd.f41 1 res φ)
theorem L1_step (x0 : api_Partition) (y3_L1 : List Int) (y14_L1 : Int) (φ : List Int → Prop) (h :
    (if y14_L1 < ((List.replicate x0.Rows.toNat (0 : Int)).length : Int) then
      ∃ a2, lget y3_L1 y14_L1 = some a2 ∧
      partition_labels.L1 x0 ((lset y3_L1 y14_L1 (IntKind.wrap .i64 ((-1) - y14_L1)))) ((IntKind.wrap .i64 (y14_L1 + 1))) φ
    else
      partition_labels.L2 x0 y3_L1 0 φ)) : L1 x0 y3_L1 y14_L1 φ :=
 mIn <|
 mAsk 2 h dT dF (fun h =>
 mIy 12 (eI .i64) h fun a2 h3 h =>
 mSto 0 (eI .i64) ((IntKind.wrap .i64 ((-1) - y14_L1))) h3 <|
 mFin 5 h) fun h =>
 mLen 6 (eSl (eI .i64)) x0.Classes <|
 mFin 2 h
theorem L2_step (x0 : api_Partition) (y3_L1 : List Int) (y26_L2 : Int) (φ : List Int → Prop) (h :
    (if y26_L2 < (x0.Classes.length : Int) then
      ∃ a4, lget x0.Classes y26_L2 = some a4 ∧
      partition_labels.L3 x0 y3_L1 y26_L2 a4 y26_L2 0 φ
    else
      φ y3_L1)) : L2 x0 y3_L1 y26_L2 φ :=
 mIn <|
 mAsk 2 h dT dF (fun h =>
 mIx 5 (eSl (eI .i64)) h fun a4 h5 h =>
 mLen 6 (eI .i64) a4 <|
 mFin 2 h) fun h =>
 mRet 7 h
theorem L3_step (x0 : api_Partition) (y3_L1 : List Int) (y5_L3 : Int) (a4 : List Int) (y26_L3 : Int) (y33_L3 : Int) (φ : List Int → Prop) (h :
    (if y33_L3 < (a4.length : Int) then
      ∃ a6, lget a4 y33_L3 = some a6 ∧
      ∃ a8, lget y3_L1 a6 = some a8 ∧
      partition_labels.L3 x0 ((lset y3_L1 a6 y5_L3)) y5_L3 a4 y26_L3 ((IntKind.wrap .i64 (y33_L3 + 1))) φ
    else
      partition_labels.L2 x0 y3_L1 ((IntKind.wrap .i64 (y26_L3 + 1))) φ)) : L3 x0 y3_L1 y5_L3 a4 y26_L3 y33_L3 φ :=
 mIn <|
 mAsk 2 h dT dF (fun h =>
 mIx 4 (eI .i64) h fun a6 h7 h =>
 mIy 7 (eI .i64) h fun a8 h9 h =>
 mSto 0 (eI .i64) y5_L3 h9 <|
 mFin 5 h) fun h =>
 mFin 7 h
theorem enter (x0 : api_Partition) (φ : List Int → Prop) (h :
    (0 ≤ x0.Rows ∧ x0.Rows * 8 ≤ 281474976710656) ∧
    partition_labels.L1 x0 ((List.replicate x0.Rows.toNat (0 : Int))) 0 φ) : ∃ r, φ r ∧ C x0 r :=
 mEnt (fd := Tryd.f41) (body := B) (V := W) (res := res) <|
 h.elim fun h1 h =>
 mVl 7 (val_make (t := 38) (x := (.tmp 10)) (y := (.tmp 10)) (q := .i64) (i := x0.Rows) (et := 3) (z := .lit (.int .i64 0)) (e := (eI .i64)) (a := (0 : Int)) (k := 8) (by kernel_rfl) (by kernel_rfl) (by kernel_rfl) (by kernel_rfl) (by kernel_rfl) (by kernel_rfl) (by kernel_rfl) (by kernel_rfl) (by kernel_rfl) (by kernel_rfl) h1.1 h1.2) <|
 mLen 4 (eI .i64) ((List.replicate x0.Rows.toNat (0 : Int))) <|
 mFin 2 h
end partition_labels
end Go.Own

namespace Go.Own
open Go.Proofs D
set_option maxRecDepth 100000
set_option maxHeartbeats 4000000
namespace partition_both
noncomputable def B : Code := (Tryd.f40.body).getD .skip
def W : List Nat := [0, 1, 2, 3, 4, 12, 17]
def res (r : Int) : D × List D := (.lit (.int .i64 r), [])
def C (x0 : api_Partition) (x1 : api_Partition) (r : Int) : Prop := Ret env 40 [.agg [.lit (.int .i64 x0.Rows), .sl (x0.Classes.map (eSl (eI .i64)))], .agg [.lit (.int .i64 x1.Rows), .sl (x1.Classes.map (eSl (eI .i64)))]] (res r).1 (res r).2
theorem enter (x0 : api_Partition) (x1 : api_Partition) (φ : Int → Prop) (h :
    ∃ r1 : Bool, partition_Valid.C x0 r1 ∧
    (if r1 = true then
      ∃ r2 : Bool, partition_Valid.C x1 r2 ∧
      (if r2 = true then
        (if x0.Rows = x1.Rows then
          φ 0
        else
          φ 6)
      else
        φ 1)
    else
      φ 1)) : ∃ r, φ r ∧ C x0 x1 r :=
 mEnt (fd := Tryd.f40) (body := B) (V := W) (res := res) <|
 mCalB 7 h (fun _ h => h) (fun _ h =>
 mCalB 3 h (fun _ h => h) (fun _ h =>
 mAskN 10 h bne_t bne_f (fun h =>
 mRet 5 h) fun h =>
 mRet 6 h) fun _ h =>
 mRet 7 h) fun _ h =>
 mRet 11 h
end partition_both
end Go.Own

namespace Go.Own
open Go.Proofs D
set_option maxRecDepth 100000
set_option maxHeartbeats 4000000
namespace drossref08_Few
noncomputable def B : Code := (Tryd.f22.body).getD .skip
def W : List Nat := [0, 1, 2]
def res (r : Bool) : D × List D := (.lit (.bool r), [])
def C (x0 : api_Partition) (r : Bool) : Prop := Ret env 22 [.agg [.lit (.int .i64 x0.Rows), .sl (x0.Classes.map (eSl (eI .i64)))]] (res r).1 (res r).2
theorem enter (x0 : api_Partition) (φ : Bool → Prop) (h :
    ∃ r1 : Bool, drossref08_Valid.C x0 r1 ∧
    (if r1 = true then
      φ ((decide (x0.Rows ≤ 40)))
    else
      φ true)) : ∃ r, φ r ∧ C x0 r :=
 mEnt (fd := Tryd.f22) (body := B) (V := W) (res := res) <|
 mCalB 6 h (fun _ h => h) (fun _ h =>
 mRet 8 h) fun _ h =>
 mRet 8 h
end drossref08_Few
end Go.Own

namespace Go.Own
theorem Small_of_ok {p : api_Partition} (h : p.Classes.length ≤ maxLen ∧ ∀ c ∈ p.Classes, c.length ≤ maxLen) : Small p := by
  have : maxLen < Big := by unfold maxLen Big; omega
  exact ⟨by have := h.1; omega, fun c hc => by have := h.2 c hc; omega⟩
def negs (n : Nat) : List Int := (List.range n).map fun (k : Nat) => -1 - (k : Int)
theorem negs_get {n k : Nat} (h : k < n) : (negs n)[k]? = some (-1 - (k : Int)) := by simp [negs, h]
theorem negs_len {n : Nat} : (negs n).length = n := by simp [negs]
def idx : Nat → List (List Int) → List (Int × List Int)
  | _, [] => []
  | k, c :: cs => ((k : Int), c) :: idx (k + 1) cs
theorem idx_mem : ∀ {cs : List (List Int)} {k : Nat} {x : Int × List Int}, x ∈ idx k cs → ∃ n : Nat, k ≤ n ∧ x.1 = (n : Int) ∧ cs[n - k]? = some x.2
  | [], _, _, h => by cases h
  | c :: cs, k, x, h => by
    rcases List.mem_cons.1 h with rfl | h
    · exact ⟨k, by omega, rfl, by simp⟩
    · obtain ⟨n, h1, h2, h3⟩ := idx_mem h
      refine ⟨n, by omega, h2, ?_⟩
      have : n - k = (n - (k + 1)) + 1 := by omega
      rw [this, List.getElem?_cons_succ]; exact h3
theorem idx_of : ∀ {cs : List (List Int)} {k : Nat} {c : List Int}, c ∈ cs → ∃ n : Nat, ((n : Int), c) ∈ idx k cs
  | [], _, _, h => by cases h
  | d :: cs, k, c, h => by
    rcases List.mem_cons.1 h with rfl | h
    · exact ⟨k, by simp [idx]⟩
    · obtain ⟨n, hn⟩ := idx_of (k := k + 1) h
      exact ⟨n, by simp [idx, hn]⟩
theorem idx_snd : ∀ {cs : List (List Int)} {k : Nat}, (idx k cs).map Prod.snd = cs
  | [], _ => rfl
  | c :: cs, k => by simp [idx, idx_snd]
def labN (p : api_Partition) : List Int := layAll (idx 0 p.Classes) (negs p.Rows.toNat)
theorem labN_len {p : api_Partition} : (labN p).length = p.Rows.toNat := by unfold labN; rw [layAll_len, negs_len]
namespace partition_labels
theorem fill {x0 : api_Partition} {φ : List Int → Prop} (h0 : 0 ≤ x0.Rows) (h1 : x0.Rows ≤ 1000) (hL : L2 x0 (negs x0.Rows.toNat) 0 φ) : ∀ (m k : Nat), k + m = x0.Rows.toNat → L1 x0 (negs k ++ List.replicate m 0) k φ
  | 0, k, hk => by
    apply L1_step
    rw [if_neg (by simp; omega)]
    have : k = x0.Rows.toNat := by omega
    simpa [this] using hL
  | m + 1, k, hk => by
    apply L1_step
    rw [if_pos (by simp; omega)]
    have hl : (negs k).length = k := negs_len
    refine ⟨0, ?_, ?_⟩
    · rw [lget_nat, List.getElem?_append_right (by omega)]
      simp [hl]
    · rw [wrap_succ (by omega), wrap_id (by omega) (by omega)]
      have : lset (negs k ++ List.replicate (m + 1) 0) (k : Int) (-1 - (k : Int)) = negs (k + 1) ++ List.replicate m 0 := by
        unfold lset
        rw [Int.toNat_natCast, List.set_append_right _ _ (by omega), hl, Nat.sub_self, List.replicate_succ, List.set_cons_zero]
        simp [negs, List.range_succ]
      rw [this]
      exact fill h0 h1 hL m (k + 1) (by omega)
theorem inner {x0 : api_Partition} {φ : List Int → Prop} {c : List Int} {a : Int} {j : Nat} (hb : c.length < Big) (hj : j + 1 < Big) : ∀ (r : List Int) (k : Nat) (l : List Int), c.drop k = r → (∀ i ∈ r, 0 ≤ i ∧ i < l.length) →
    L2 x0 (labClass a l r) ((j + 1 : Nat) : Int) φ → L3 x0 l a c j k φ
  | [], k, l, hd, hin, h => by
    apply L3_step
    have := drop_ge hd
    rw [if_neg (by omega), wrap_succ hj]
    exact h
  | i :: r, k, l, hd, hin, h => by
    apply L3_step
    have hk := drop_lt hd
    have hi := hin i (by simp)
    rw [if_pos (by omega)]
    obtain ⟨x, hx⟩ := lget_lt (l := l) (i := i) hi.1 hi.2
    refine ⟨i, lget_drop hd, x, hx, ?_⟩
    rw [wrap_succ (by unfold Big at hb; omega)]
    exact inner hb hj r (k + 1) _ (drop_next hd) (fun q hq => by rw [lset_length]; exact hin q (by simp [hq])) h
theorem outer {x0 : api_Partition} {φ : List Int → Prop} (hb : Small x0) : ∀ (cs : List (List Int)) (k : Nat) (l : List Int), x0.Classes.drop k = cs → (∀ c ∈ cs, ∀ i ∈ c, 0 ≤ i ∧ i < l.length) →
    φ (layAll (idx k cs) l) → L2 x0 l k φ
  | [], k, l, hd, hin, h => by
    apply L2_step
    have := drop_ge hd
    rw [if_neg (by omega)]
    exact h
  | c :: cs, k, l, hd, hin, h => by
    apply L2_step
    have hk := drop_lt hd
    rw [if_pos (by omega)]
    have hcg := drop_get hd
    refine ⟨c, lget_drop hd, ?_⟩
    refine inner (hb.2 _ (List.mem_of_getElem? hcg)) (by have := hb.1; omega) c 0 l rfl (hin c (by simp)) ?_
    exact outer hb cs (k + 1) _ (drop_next hd) (fun d hd i hi => by rw [labClass_len]; exact hin d (by simp [hd]) i hi) h
theorem spec {x0 : api_Partition} (hb : Small x0) (hv : validF x0 = true) : C x0 (labN x0) := by
  obtain ⟨v1, v2, v3⟩ := valid_iff.1 hv
  obtain ⟨r, h1, h2⟩ := enter x0 (fun r => r = labN x0) (by
    refine ⟨by omega, ?_⟩
    have := fill (φ := fun r => r = labN x0) v1 v2 (outer hb x0.Classes 0 _ rfl (fun c hc i hi => by have := v3.inn c hc i hi; rw [negs_len]; omega) rfl) x0.Rows.toNat 0 (by omega)
    simpa [negs] using this)
  rw [← h1]; exact h2
end partition_labels
theorem labN_out {p : api_Partition} (hv : validF p = true) {i : Int} (h0 : 0 ≤ i) (h1 : i < p.Rows) (hn : ∀ c ∈ p.Classes, i ∉ c) : lget (labN p) i = some (-1 - i) := by
  obtain ⟨v1, v2, v3⟩ := valid_iff.1 hv
  unfold labN
  rw [layAll_out (fun x hx => ?_) h0 (by rw [negs_len]; omega) (fun x hx => ?_)]
  · simp only [lget, if_pos h0]
    rw [negs_get (by omega)]
    congr 1; omega
  · obtain ⟨n, _, _, h3⟩ := idx_mem hx
    intro j hj
    have := v3.inn _ (List.mem_of_getElem? h3) j hj
    rw [negs_len]; omega
  · obtain ⟨n, _, _, h3⟩ := idx_mem hx
    exact hn _ (List.mem_of_getElem? h3)
theorem labN_in {p : api_Partition} (hv : validF p = true) {i : Int} {x : Int × List Int} (hc : x ∈ idx 0 p.Classes) (hi : i ∈ x.2) : lget (labN p) i = some x.1 := by
  obtain ⟨v1, v2, v3⟩ := valid_iff.1 hv
  obtain ⟨n, _, _, h3⟩ := idx_mem hc
  have hin := v3.inn _ (List.mem_of_getElem? h3) i hi
  unfold labN
  refine layAll_in (fun y hy => ?_) hin.1 (by rw [negs_len]; omega) ?_ hc hi
  · obtain ⟨n, _, _, h3⟩ := idx_mem hy
    intro j hj
    have := v3.inn _ (List.mem_of_getElem? h3) j hj
    rw [negs_len]; omega
  · have := v3.disj
    rw [← idx_snd (cs := p.Classes) (k := 0)] at this
    exact List.pairwise_map.1 this
theorem labN_same {p : api_Partition} (hv : validF p = true) {i j : Int} (hi : 0 ≤ i ∧ i < p.Rows) (hj : 0 ≤ j ∧ j < p.Rows) : lget (labN p) i = lget (labN p) j ↔ Same p i j := by
  obtain ⟨v1, v2, v3⟩ := valid_iff.1 hv
  have inn : ∀ {i : Int}, (∃ c ∈ p.Classes, i ∈ c) → ∃ x ∈ idx 0 p.Classes, i ∈ x.2 := by
    rintro i ⟨c, hc, hi⟩
    obtain ⟨n, hn⟩ := idx_of (k := 0) hc
    exact ⟨_, hn, hi⟩
  constructor
  · intro h
    by_cases hic : ∃ c ∈ p.Classes, i ∈ c
    · obtain ⟨x, hx, hxi⟩ := inn hic
      obtain ⟨n, _, e1, g1⟩ := idx_mem hx
      rw [labN_in hv hx hxi] at h
      by_cases hjc : ∃ d ∈ p.Classes, j ∈ d
      · obtain ⟨y, hy, hyj⟩ := inn hjc
        obtain ⟨m, _, e2, g2⟩ := idx_mem hy
        rw [labN_in hv hy hyj] at h
        have h2 := Option.some.inj h
        have : n = m := by omega
        subst this
        rw [g1] at g2
        have := Option.some.inj g2
        exact .inr ⟨x.2, List.mem_of_getElem? g1, hxi, by rw [this]; exact hyj⟩
      · rw [labN_out hv hj.1 hj.2 (fun c hc hjc' => hjc ⟨c, hc, hjc'⟩)] at h
        have h2 := Option.some.inj h
        omega
    · rw [labN_out hv hi.1 hi.2 (fun c hc hic' => hic ⟨c, hc, hic'⟩)] at h
      by_cases hjc : ∃ d ∈ p.Classes, j ∈ d
      · obtain ⟨y, hy, hyj⟩ := inn hjc
        obtain ⟨m, _, e2, g2⟩ := idx_mem hy
        rw [labN_in hv hy hyj] at h
        have h2 := Option.some.inj h
        omega
      · rw [labN_out hv hj.1 hj.2 (fun c hc hjc' => hjc ⟨c, hc, hjc'⟩)] at h
        exact .inl (by have := Option.some.inj h; omega)
  · rintro (rfl | ⟨c, hc, h1, h2⟩)
    · rfl
    · obtain ⟨n, hn⟩ := idx_of (k := 0) hc
      rw [labN_in hv hn h1, labN_in hv hn h2]
def bothF (a b : api_Partition) : Int := if validF a then (if validF b then (if a.Rows = b.Rows then 0 else 6) else 1) else 1
theorem partition_both.spec {a b : api_Partition} (ha : Small a) (hb : Small b) : partition_both.C a b (bothF a b) := by
  obtain ⟨r, h1, h2⟩ := partition_both.enter a b (fun r => r = bothF a b) (by
    refine ⟨_, partition_Valid.spec ha, ?_⟩
    unfold bothF
    split
    · refine ⟨_, partition_Valid.spec hb, ?_⟩
      split
      · split
        · rfl
        · rfl
      · rfl
    · rfl)
  rw [← h1]; exact h2
theorem drossref08_Few.spec {a : api_Partition} (ha : Small a) : drossref08_Few.C a (!validF a || decide (a.Rows ≤ 40)) := by
  obtain ⟨r, h1, h2⟩ := drossref08_Few.enter a (fun r => r = (!validF a || decide (a.Rows ≤ 40))) (by
    refine ⟨_, drossref08_Valid.spec ha, ?_⟩
    split
    · rename_i h; rw [h]; rfl
    · rename_i h
      have : validF a = false := by simpa using h
      rw [this]; rfl)
  rw [← h1]; exact h2
theorem extra_mem {rows : Int} : ∀ {cs : List (List Int)} {c : List Int}, CP rows cs → c ∈ cs → (c.length : Int) - 1 ≤ extra cs ∧ (cs.length : Int) ≤ extra cs
  | [], _, _, h => by cases h
  | d :: cs, c, hp, h => by
    have hd := hp.two d (by simp)
    have hp' : CP rows cs := ⟨fun c hc => hp.two c (by simp [hc]), fun c hc => hp.inc c (by simp [hc]), fun c hc => hp.inn c (by simp [hc]), (List.pairwise_cons.1 hp.heads).2, (List.pairwise_cons.1 hp.disj).2⟩
    have hnn : ∀ {cs : List (List Int)}, CP rows cs → (cs.length : Int) ≤ extra cs := by
      intro cs
      induction cs with
      | nil => intro _; simp [extra]
      | cons e cs ih =>
        intro hq
        have he := hq.two e (by simp)
        have := ih ⟨fun c hc => hq.two c (by simp [hc]), fun c hc => hq.inc c (by simp [hc]), fun c hc => hq.inn c (by simp [hc]), (List.pairwise_cons.1 hq.heads).2, (List.pairwise_cons.1 hq.disj).2⟩
        simp only [extra, List.length_cons]; omega
    have h1 := hnn hp'
    simp only [extra, List.length_cons]
    refine ⟨?_, by omega⟩
    rcases List.mem_cons.1 h with rfl | h
    · omega
    · have := (extra_mem hp' h).1; omega
theorem sizes {x : api_Partition} (hv : validF x = true) : x.Classes.length ≤ 1000 ∧ ∀ c ∈ x.Classes, c.length ≤ 1001 := by
  obtain ⟨v1, v2, v3⟩ := valid_iff.1 hv
  obtain ⟨w1, w2, w3⟩ := valid_ok hv
  have h1 := (extra_free (by simp; omega) w3).2
  rw [free_replicate] at h1
  refine ⟨?_, fun c hc => ?_⟩
  · cases hcs : x.Classes with
    | nil => simp
    | cons c cs =>
      have := (extra_mem v3 (c := c) (by rw [hcs]; simp)).2
      rw [hcs] at this h1; omega
  · have := (extra_mem v3 hc).1; omega
def lab1 (r : List Int) (i : Int) : Int := (lget r i).getD 0
theorem lab1_of {r : List Int} {i a : Int} (h : lget r i = some a) : lab1 r i = a := by simp [lab1, h]
theorem lab1_iff {r : List Int} {i j : Int} (hi : 0 ≤ i ∧ i < r.length) (hj : 0 ≤ j ∧ j < r.length) : lab1 r i = lab1 r j ↔ lget r i = lget r j := by
  obtain ⟨a, ha⟩ := lget_lt hi.1 hi.2
  obtain ⟨b, hb⟩ := lget_lt hj.1 hj.2
  simp [lab1, ha, hb]
end Go.Own

namespace Go.Own
open Go.Proofs D
set_option maxRecDepth 100000
set_option maxHeartbeats 4000000
namespace drossref08_group
noncomputable def B : Code := (Tryd.f37.body).getD .skip
def W : List Nat := [0, 2, 3, 4, 5, 6, 7, 14, 20, 31, 48]
def res (r : api_Partition) : D × List D := (.agg [.lit (.int .i64 r.Rows), .own (r.Classes.map (eOw (eI .i64)))], [])
def C (x0 : List Int) (r : api_Partition) : Prop := Ret env 37 [.sl (x0.map (eI .i64))] (res r).1 (res r).2
def L1 (x0 : List Int) (y3_1_L1 : List (List Int)) (y4_L1 : Int) (φ : api_Partition → Prop) : Prop := Pt env 37 W B [1, 1, 0, 1, 0] [(0, .sl (x0.map (eI .i64))), (2, .box [.lit (.int .i64 0), .own []]), (3, .box [.lit (.int .i64 ((x0.length : Int))), .own (y3_1_L1.map (eOw (eI .i64)))]), (4, .lit (.int .i64 y4_L1))] (Lv env 37 Tryd.f37 1 res φ)
def L2 (x0 : List Int) (y3_1_L2 : List (List Int)) (y4_L2 : Int) (y5_L2 : List Int) (y6_L2 : Bool) (y7_L2 : Int) (φ : api_Partition → Prop) : Prop := Pt env 37 W B [1, 1, 0, 1, 0, 0, 1, 0, 0, 1, 1, 0, 1, 0] [(0, .sl (x0.map (eI .i64))), (2, .box [.lit (.int .i64 0), .own []]), (3, .box [.lit (.int .i64 ((x0.length : Int))), .own (y3_1_L2.map (eOw (eI .i64)))]), (4, .lit (.int .i64 y4_L2)), (5, .own (y5_L2.map (eI .i64))), (6, .lit (.bool y6_L2)), (7, .lit (.int .i64 y7_L2))] (Lv env 37 Tryd.f37 1 res φ)
def L3 (x0 : List Int) (y3_1_L3 : List (List Int)) (y4_L3 : Int) (y5_L3 : List Int) (y6_L3 : Bool) (y7_L2 : Int) (φ : api_Partition → Prop) : Prop := Pt env 37 W B [1, 1, 0, 1, 0, 0, 1, 0, 0, 1, 1, 0, 1, 0, 0, 1, 1] [(0, .sl (x0.map (eI .i64))), (2, .box [.lit (.int .i64 0), .own []]), (3, .box [.lit (.int .i64 ((x0.length : Int))), .own (y3_1_L3.map (eOw (eI .i64)))]), (4, .lit (.int .i64 y4_L3)), (5, .own (y5_L3.map (eI .i64))), (6, .lit (.bool y6_L3)), (7, .lit (.int .i64 y7_L2))] (Lv env 37 Tryd.f37 1 res φ)
def L4 (x0 : List Int) (y3_1_L4 : List (List Int)) (y4_L2 : Int) (φ : api_Partition → Prop) : Prop := Pt env 37 W B [1, 1, 0, 1, 0, 0, 1, 1] [(0, .sl (x0.map (eI .i64))), (2, .box [.lit (.int .i64 0), .own []]), (3, .box [.lit (.int .i64 ((x0.length : Int))), .own (y3_1_L4.map (eOw (eI .i64)))]), (4, .lit (.int .i64 y4_L2))] (Lv env 37 Tryd.f37 1 res φ)
theorem L1_step (x0 : List Int) (y3_1_L1 : List (List Int)) (y4_L1 : Int) (φ : api_Partition → Prop) (h :
    (if y4_L1 < (x0.length : Int) then
      drossref08_group.L2 x0 y3_1_L1 y4_L1 ([]) false 0 φ
    else
      φ ((⟨(x0.length : Int), y3_1_L1⟩ : api_Partition)))) : L1 x0 y3_1_L1 y4_L1 φ :=
 mIn <|
 mLen 4 (eI .i64) x0 <|
 mAsk 0 h dT dF (fun h =>
 mFin 12 h) fun h =>
 mRet 7 h
theorem L2_step (x0 : List Int) (y3_1_L2 : List (List Int)) (y4_L2 : Int) (y5_L2 : List Int) (y6_L2 : Bool) (y7_L2 : Int) (φ : api_Partition → Prop) (h :
    (if y7_L2 < (x0.length : Int) then
      ∃ a1, lget x0 y7_L2 = some a1 ∧
      ∃ a3, lget x0 y4_L2 = some a3 ∧
      (if a1 = a3 then
        (y5_L2.length + 1) * 8 ≤ 140737488355328 ∧
        (if y6_L2 = true then
          drossref08_group.L3 x0 y3_1_L2 y4_L2 ((y5_L2 ++ [y7_L2])) true y7_L2 φ
        else
          drossref08_group.L3 x0 y3_1_L2 y4_L2 ((y5_L2 ++ [y7_L2])) ((decide (y7_L2 < y4_L2))) y7_L2 φ)
      else
        drossref08_group.L3 x0 y3_1_L2 y4_L2 y5_L2 y6_L2 y7_L2 φ)
    else
      (if y6_L2 = true then
        drossref08_group.L4 x0 y3_1_L2 y4_L2 φ
      else
        (if 1 < (y5_L2.length : Int) then
          (y3_1_L2.length + 1) * 24 ≤ 140737488355328 ∧
          drossref08_group.L4 x0 ((y3_1_L2 ++ [y5_L2])) y4_L2 φ
        else
          drossref08_group.L4 x0 y3_1_L2 y4_L2 φ)))) : L2 x0 y3_1_L2 y4_L2 y5_L2 y6_L2 y7_L2 φ :=
 mIn <|
 mLen 4 (eI .i64) x0 <|
 mAsk 0 h dT dF (fun h =>
 mIx 6 (eI .i64) h fun a1 h2 h =>
 mIx 3 (eI .i64) h fun a3 h4 h =>
 mAsk 1 h beq_t beq_f (fun h =>
 mApp 6 (eI .i64) y5_L2 ([y7_L2]) h fun h =>
 mAsk 3 h id fls (fun h =>
 mFin 7 h) fun h =>
 mFin 7 h) fun h =>
 mFin 3 h) fun h =>
 mAsk 4 h id fls (fun h =>
 mFin 9 h) fun h =>
 mLen 3 (eI .i64) y5_L2 <|
 mAsk 0 h dT dF (fun h =>
 mApp 8 (eOw (eI .i64)) y3_1_L2 ([y5_L2]) h fun h =>
 mFin 3 h) fun h =>
 mFin 4 h
theorem L3_step (x0 : List Int) (y3_1_L3 : List (List Int)) (y4_L3 : Int) (y5_L3 : List Int) (y6_L3 : Bool) (y7_L2 : Int) (φ : api_Partition → Prop) (h :
    drossref08_group.L2 x0 y3_1_L3 y4_L3 y5_L3 y6_L3 ((IntKind.wrap .i64 (y7_L2 + 1))) φ) : L3 x0 y3_1_L3 y4_L3 y5_L3 y6_L3 y7_L2 φ :=
 mIn <|
 mFin 5 h
theorem L4_step (x0 : List Int) (y3_1_L4 : List (List Int)) (y4_L2 : Int) (φ : api_Partition → Prop) (h :
    drossref08_group.L1 x0 y3_1_L4 ((IntKind.wrap .i64 (y4_L2 + 1))) φ) : L4 x0 y3_1_L4 y4_L2 φ :=
 mIn <|
 mFin 5 h
theorem enter (x0 : List Int) (φ : api_Partition → Prop) (h :
    drossref08_group.L1 x0 ([]) 0 φ) : ∃ r, φ r ∧ C x0 r :=
 mEnt (fd := Tryd.f37) (body := B) (V := W) (res := res) <|
 mLen 5 (eI .i64) x0 <|
 mFin 7 h
end drossref08_group
end Go.Own

namespace Go.Own
open Go.Proofs D
set_option maxRecDepth 100000
set_option maxHeartbeats 4000000
namespace drossref08_From
noncomputable def B : Code := (Tryd.f19.body).getD .skip
def W : List Nat := [0, 2, 3, 4, 8]
def res (r : api_Partition) : D × List D := (.agg [.lit (.int .i64 r.Rows), .own (r.Classes.map (eOw (eI .i64)))], [])
def C (x0 : List Int) (r : api_Partition) : Prop := Ret env 19 [.sl (x0.map (eI .u8))] (res r).1 (res r).2
def L1 (x0 : List Int) (y3_L1 : List Int) (y4_L1 : Int) (φ : api_Partition → Prop) : Prop := Pt env 19 W B [1, 1, 0, 1, 0] [(0, .sl (x0.map (eI .u8))), (2, .box [.lit (.int .i64 0), .own []]), (3, .own (y3_L1.map (eI .i64))), (4, .lit (.int .i64 y4_L1))] (Lv env 19 Tryd.f19 1 res φ)
theorem L1_step (x0 : List Int) (y3_L1 : List Int) (y4_L1 : Int) (φ : api_Partition → Prop) (h :
    (if y4_L1 < (x0.length : Int) then
      ∃ a1, lget x0 y4_L1 = some a1 ∧
      (y3_L1.length + 1) * 8 ≤ 140737488355328 ∧
      drossref08_From.L1 x0 ((y3_L1 ++ [(IntKind.wrap .i64 a1)])) ((IntKind.wrap .i64 (y4_L1 + 1))) φ
    else
      ∃ r4 : api_Partition, drossref08_group.C y3_L1 r4 ∧
      φ r4)) : L1 x0 y3_L1 y4_L1 φ :=
 mIn <|
 mLen 4 (eI .u8) x0 <|
 mAsk 0 h dT dF (fun h =>
 mIx 7 (eI .u8) h fun a1 h2 h =>
 mApp 3 (eI .i64) y3_L1 ([(IntKind.wrap .i64 a1)]) h fun h =>
 mFin 7 h) fun h =>
 mCal 5 h (fun _ h => h) (hr := (pr_snap (snap_ow (s := 3) (ps := []) (l := y3_L1) (e := (eI .i64)) (e' := (eI .i64)) (fun _ => rfl) (by kernel_rfl)) pr_nil)) (hf := (fun _ => clF_flat (flat_agg (flts_cons rfl (flts_cons (flat_ow (e := (eOw (eI .i64))) (Flt.ow (fun _ => rfl))) flts_nil))) rfl)) fun r4 _ h =>
 mRet 2 h
theorem enter (x0 : List Int) (φ : api_Partition → Prop) (h :
    drossref08_From.L1 x0 ([]) 0 φ) : ∃ r, φ r ∧ C x0 r :=
 mEnt (fd := Tryd.f19) (body := B) (V := W) (res := res) <|
 mFin 9 h
end drossref08_From
end Go.Own

namespace Go.Own
open Go.Proofs D
set_option maxRecDepth 100000
set_option maxHeartbeats 4000000
namespace partition_groups_2_int_1
noncomputable def B : Code := (Tryd.f64.body).getD .skip
def W : List Nat := [0, 2]
def res (r : Bool) : D × List D := (.lit (.bool r), [])
def C (x0 : List Int) (r : Bool) : Prop := Ret env 64 [.sl (x0.map (eI .i64))] (res r).1 (res r).2
theorem enter (x0 : List Int) (φ : Bool → Prop) (h :
    φ ((decide ((x0.length : Int) < 2)))) : ∃ r, φ r ∧ C x0 r :=
 mEnt (fd := Tryd.f64) (body := B) (V := W) (res := res) <|
 mLen 5 (eI .i64) x0 <|
 mRet 3 h
end partition_groups_2_int_1
end Go.Own

namespace Go.Own
open Go.Proofs D
set_option maxRecDepth 100000
set_option maxHeartbeats 4000000
namespace slices_IndexFunc_ssint_sint_partition_groups_2_int_1
noncomputable def B : Code := (Tryd.f66.body).getD .skip
def W : List Nat := [0, 1, 4, 5, 7, 8, 9, 16]
def res (r : Int) : D × List D := (.lit (.int .i64 r), [])
def C (x0 : List (List Int)) (r : Int) : Prop := Ret env 66 [.sl (x0.map (eSl (eI .i64))), .fn 64 []] (res r).1 (res r).2
def L1 (x0 : List (List Int)) (y8_L1 : Int) (φ : Int → Prop) : Prop := Pt env 66 W B [1, 0, 1, 0] [(0, .sl (x0.map (eSl (eI .i64)))), (1, .fn 64 []), (7, .lit (.int .i64 ((x0.length : Int)))), (8, .lit (.int .i64 y8_L1))] (Lv env 66 Tryd.f66 2 res φ)
theorem L1_step (x0 : List (List Int)) (y8_L1 : Int) (φ : Int → Prop) (h :
    (if y8_L1 < (x0.length : Int) then
      ∃ a1, lget x0 y8_L1 = some a1 ∧
      ∃ r3 : Bool, partition_groups_2_int_1.C a1 r3 ∧
      (if r3 = true then
        φ y8_L1
      else
        slices_IndexFunc_ssint_sint_partition_groups_2_int_1.L1 x0 ((IntKind.wrap .i64 (y8_L1 + 1))) φ)
    else
      φ ((-1)))) : L1 x0 y8_L1 φ :=
 mIn <|
 mAsk 2 h dT dF (fun h =>
 mIx 11 (eSl (eI .i64)) h fun a1 h2 h =>
 mCalB 1 h (fun _ h => h) (fun _ h =>
 mRet 6 h) fun _ h =>
 mFin 7 h) fun h =>
 mRet 6 h
theorem enter (x0 : List (List Int)) (φ : Int → Prop) (h :
    slices_IndexFunc_ssint_sint_partition_groups_2_int_1.L1 x0 0 φ) : ∃ r, φ r ∧ C x0 r :=
 mEnt (fd := Tryd.f66) (body := B) (V := W) (res := res) <|
 mLen 5 (eSl (eI .i64)) x0 <|
 mFin 2 h
end slices_IndexFunc_ssint_sint_partition_groups_2_int_1
end Go.Own

namespace Go.Own
open Go.Proofs D
set_option maxRecDepth 100000
set_option maxHeartbeats 4000000
namespace slices_DeleteFunc_ssint_sint_partition_groups_2_int_1
noncomputable def B : Code := (Tryd.f63.body).getD .skip
def W : List Nat := [0, 1, 4, 5, 6, 7, 12, 19, 29]
def res (r : (List (List Int) × Bool)) : D × List D := ((sown (r.1.map (eSl (eI .i64))) r.2), [])
def C (k0_0 : List (List Int)) (r : (List (List Int) × Bool)) : Prop := Ret env 63 [.own (k0_0.map (eSl (eI .i64))), .fn 64 []] (res r).1 (res r).2
def L1 (k0_0 : List (List Int)) (r1 : Int) (y6_L1 : Int) (φ : (List (List Int) × Bool) → Prop) : Prop := Pt env 63 W B [1, 1, 1, 0, 1, 0] [(0, .own (k0_0.map (eSl (eI .i64)))), (1, .fn 64 []), (5, .lit (.int .i64 r1)), (6, .lit (.int .i64 y6_L1))] (Lv env 63 Tryd.f63 2 res φ)
def L2 (k0_0 : List (List Int)) (r1 : Int) (y6_L1 : Int) (φ : (List (List Int) × Bool) → Prop) : Prop := Pt env 63 W B [1, 1, 1, 0, 1, 0, 0, 1, 1] [(0, .own (k0_0.map (eSl (eI .i64)))), (1, .fn 64 []), (5, .lit (.int .i64 r1)), (6, .lit (.int .i64 y6_L1))] (Lv env 63 Tryd.f63 2 res φ)
theorem L1_step (k0_0 : List (List Int)) (r1 : Int) (y6_L1 : Int) (φ : (List (List Int) × Bool) → Prop) (h :
    (if y6_L1 < (k0_0.length : Int) then
      ∃ a2, lget k0_0 y6_L1 = some a2 ∧
      ∃ r4 : Bool, partition_groups_2_int_1.C a2 r4 ∧
      (if r4 = true then
        slices_DeleteFunc_ssint_sint_partition_groups_2_int_1.L2 k0_0 r1 y6_L1 φ
      else
        ∃ a5, lget k0_0 r1 = some a5 ∧
        slices_DeleteFunc_ssint_sint_partition_groups_2_int_1.L2 ((lset k0_0 r1 a2)) ((IntKind.wrap .i64 (r1 + 1))) y6_L1 φ)
    else
      0 ≤ r1 ∧
      (r1.toNat ≤ k0_0.length ∧ k0_0.length ≤ k0_0.length) ∧
      r1.toNat + (k0_0.length - r1.toNat) ≤ k0_0.length ∧
      0 ≤ r1 ∧
      r1.toNat + (k0_0.length - r1.toNat) ≤ k0_0.length ∧
      r1.toNat ≤ k0_0.length ∧
      (r1.toNat + (k0_0.length - r1.toNat) ≤ k0_0.length ∧ r1.toNat ≤ k0_0.length ∧ r1.toNat ≤ r1.toNat) ∧
      φ (⟨(List.take r1.toNat k0_0), (!(((List.take r1.toNat k0_0)).isEmpty))⟩))) : L1 k0_0 r1 y6_L1 φ :=
 mIn <|
 mLen 4 (eSl (eI .i64)) k0_0 <|
 mAsk 0 h dT dF (fun h =>
 mIy 6 (eSl (eI .i64)) h fun a2 h3 h =>
 mLd 0 (eSl (eI .i64)) h3 <|
 mCalB 5 h (fun _ h => h) (fun _ h =>
 mFin 4 h) fun _ h =>
 mIy 7 (eSl (eI .i64)) h fun a5 h6 h =>
 mSto 0 (eSl (eI .i64)) a2 h6 <|
 mFin 6 h) fun h =>
 h.elim fun h7 h =>
 h.elim fun h8 h =>
 mVl 6 (val_slice_ow (s := 0) (ps := []) (t := 29) (x := (.tmp 36)) (lo := (some (.tmp 37))) (hi := none) (lo' := some (r1).toNat) (hi' := none) (e := (eSl (eI .i64))) (l := k0_0) (et := 38) (k := 1) (by kernel_rfl) (by kernel_rfl) (elemsOf_ow (by kernel_rfl)) (optNat_some (i := r1) (q := .i64) (by kernel_rfl) h7) optNat_none (by kernel_rfl) (by kernel_rfl) (fun _ => rfl) (by kernel_rfl) h8.1 h8.2) <|
 h.elim fun h9 h =>
 mOp 0 (op_clear (t := 29) (x := (.tmp 38)) (s := 0) (ps := []) (off := r1.toNat) (len := (k0_0.length - r1.toNat)) (l := k0_0) (e := (eSl (eI .i64))) (et := 38) (z := .own []) (k := 1) (by kernel_rfl) (by kernel_rfl) (by kernel_rfl) (by kernel_rfl) (by kernel_rfl) (by kernel_rfl) (by kernel_rfl) (by kernel_rfl) (fun _ => rfl) h9 (by kernel_rfl)) <|
 h.elim fun h10 h =>
 h.elim fun h11 h =>
 h.elim fun h12 h =>
 mVl 4 (val_slice_clr (t := 29) (x := (.tmp 39)) (hi := (some (.tmp 40))) (hi' := r1.toNat) (e := (eSl (eI .i64))) (l := k0_0) (off := r1.toNat) (len := (k0_0.length - r1.toNat)) (z := .own []) (et := 38) (k := 1) (s := 0) (ps := []) (by kernel_rfl) (by kernel_rfl) (by kernel_rfl) (optNat_some (i := r1) (q := .i64) (by kernel_rfl) h10) (by kernel_rfl) (by kernel_rfl) (fun _ => rfl) (by kernel_rfl) (by kernel_rfl) h11 h12) <|
 h.elim fun h13 h =>
 mRet 2 h (hl := (leave_sub (t := 4) (s := 0) (n := r1.toNat) (m := (List.take r1.toNat k0_0)) (e := (eSl (eI .i64))) (es := clr (eSl (eI .i64)) k0_0 r1.toNat (k0_0.length - r1.toNat) (.own [])) (by kernel_rfl) (by kernel_rfl) (by kernel_rfl) (by rw [clr_len (by first | exact h13.1 | omega)]; exact h13.2.1) (clr_take h13.1 h13.2.2) (by kernel_rfl)))
theorem L2_step (k0_0 : List (List Int)) (r1 : Int) (y6_L1 : Int) (φ : (List (List Int) × Bool) → Prop) (h :
    slices_DeleteFunc_ssint_sint_partition_groups_2_int_1.L1 k0_0 r1 ((IntKind.wrap .i64 (y6_L1 + 1))) φ) : L2 k0_0 r1 y6_L1 φ :=
 mIn <|
 mFin 5 h
theorem enter (k0_0 : List (List Int)) (φ : (List (List Int) × Bool) → Prop) (h :
    ∃ r1 : Int, slices_IndexFunc_ssint_sint_partition_groups_2_int_1.C k0_0 r1 ∧
    (if r1 = (-1) then
      φ (⟨k0_0, true⟩)
    else
      slices_DeleteFunc_ssint_sint_partition_groups_2_int_1.L1 k0_0 r1 ((IntKind.wrap .i64 (r1 + 1))) φ)) : ∃ r, φ r ∧ C k0_0 r :=
 mEnt (fd := Tryd.f63) (body := B) (V := W) (res := res) <|
 mCal 6 h (fun _ h => h) (hr := (pr_snap (snap_ow (s := 0) (ps := []) (l := k0_0) (e := (eSl (eI .i64))) (e' := (eSl (eI .i64))) (fun _ => rfl) (by kernel_rfl)) (pr_k pr_nil))) fun r1 _ h =>
 mAsk 4 h beq_t beq_f (fun h =>
 mRet 6 h) fun h =>
 mFin 8 h
end slices_DeleteFunc_ssint_sint_partition_groups_2_int_1
end Go.Own

namespace Go.Own
open Go.Proofs D
set_option maxRecDepth 100000
set_option maxHeartbeats 4000000
namespace partition_groups_2_int
noncomputable def B : Code := (Tryd.f42.body).getD .skip
def W : List Nat := [0, 2, 3, 4, 5, 6, 7, 8, 10, 11, 12, 13, 24]
def res (r : List (List Int)) : D × List D := (.sl (r.map (eSl (eI .i64))), [])
def C (x0 : List (Int × Int)) (r : List (List Int)) : Prop := Ret env 42 [.sl (x0.map enc_arr2_Int)] (res r).1 (res r).2
def L1 (x0 : List (Int × Int)) (y3_L1 : List ((Int × Int) × Int)) (y4_L1 : List (List Int)) (y12_L1 : Int) (φ : List (List Int) → Prop) : Prop := Pt env 42 W B [1, 1, 1, 0, 1, 0] [(0, .sl (x0.map enc_arr2_Int)), (3, (eMap (fun (x : (Int × Int)) => Value.agg #[Value.int .i64 x.1, Value.int .i64 x.2]) (fun (x : Int) => D.lit (.int .i64 x)) y3_L1)), (4, .own (y4_L1.map (eOw (eI .i64)))), (10, .sl (x0.map enc_arr2_Int)), (11, .lit (.int .i64 ((x0.length : Int)))), (12, .lit (.int .i64 y12_L1))] (Lv env 42 Tryd.f42 1 res φ)
def L2 (x0 : List (Int × Int)) (y3_L2 : List ((Int × Int) × Int)) (y4_L1 : List (List Int)) (y12_L1 : Int) (y7_L2 : Int) (φ : List (List Int) → Prop) : Prop := Pt env 42 W B [1, 1, 1, 0, 1, 0, 0, 1, 1, 0, 0, 1, 1, 1] [(0, .sl (x0.map enc_arr2_Int)), (3, (eMap (fun (x : (Int × Int)) => Value.agg #[Value.int .i64 x.1, Value.int .i64 x.2]) (fun (x : Int) => D.lit (.int .i64 x)) y3_L2)), (4, .own (y4_L1.map (eOw (eI .i64)))), (5, .lit (.int .i64 y12_L1)), (7, .lit (.int .i64 y7_L2)), (10, .sl (x0.map enc_arr2_Int)), (11, .lit (.int .i64 ((x0.length : Int)))), (12, .lit (.int .i64 y12_L1))] (Lv env 42 Tryd.f42 1 res φ)
theorem L1_step (x0 : List (Int × Int)) (y3_L1 : List ((Int × Int) × Int)) (y4_L1 : List (List Int)) (y12_L1 : Int) (φ : List (List Int) → Prop) (h :
    (if y12_L1 < (x0.length : Int) then
      ∃ a1, lget x0 y12_L1 = some a1 ∧
      (if (mhas a1 y3_L1) = true then
        partition_groups_2_int.L2 x0 y3_L1 y4_L1 y12_L1 ((mgetD a1 y3_L1 0)) φ
      else
        (y4_L1.length + 1) * 24 ≤ 140737488355328 ∧
        partition_groups_2_int.L2 x0 ((mset a1 (y4_L1.length : Int) y3_L1)) ((y4_L1 ++ [[]])) y12_L1 ((y4_L1.length : Int)) φ)
    else
      ∃ r4 : (List (List Int) × Bool), slices_DeleteFunc_ssint_sint_partition_groups_2_int_1.C y4_L1 r4 ∧
      φ r4.1)) : L1 x0 y3_L1 y4_L1 y12_L1 φ :=
 mIn <|
 mAsk 2 h dT dF (fun h =>
 mIx 5 enc_arr2_Int h fun a1 h2 h =>
 mVl 8 (val_lookup_t kb_arr2 (fun _ => by kernel_rfl) (ek := (fun (x : (Int × Int)) => Value.agg #[Value.int .i64 x.1, Value.int .i64 x.2])) (ev := (fun (x : Int) => D.lit (.int .i64 x))) (t := 104) (x := (.tmp 18)) (kx := (.tmp 19)) (s := 3) (ps := []) (l := y3_L1) (kd := .agg [.lit (.int .i64 a1.1), .lit (.int .i64 a1.2)]) (kv := a1) (kt := 74) (vt := 3) (v0 := 0) (by kernel_rfl) (by kernel_rfl) (by kernel_rfl) (by kernel_rfl) (by kernel_rfl) (by kernel_rfl) (by kernel_rfl) (by kernel_rfl)) <|
 mAsk 7 h id fls (fun h =>
 mFin 4 h) fun h =>
 mLen 5 (eOw (eI .i64)) y4_L1 <|
 mOp 6 (op_mapUpdate kb_arr2 (fun _ => by kernel_rfl) (ek := (fun (x : (Int × Int)) => Value.agg #[Value.int .i64 x.1, Value.int .i64 x.2])) (ev := (fun (x : Int) => D.lit (.int .i64 x))) (t := 104) (mx := (.tmp 27)) (kx := (.tmp 28)) (vx := (.tmp 29)) (s := 3) (ps := []) (l := y3_L1) (kd := .agg [.lit (.int .i64 a1.1), .lit (.int .i64 a1.2)]) (kv := a1) (kt := 74) (vt := 3) (v := (y4_L1.length : Int)) (d := .lit (.int .i64 ((y4_L1.length : Int)))) (by kernel_rfl) (by kernel_rfl) (by kernel_rfl) (by kernel_rfl) (by kernel_rfl) (by kernel_rfl) (by kernel_rfl) (by kernel_rfl) (by kernel_rfl) (setG_eq (by kernel_rfl))) <|
 mApp 4 (eOw (eI .i64)) y4_L1 ([[]]) h fun h =>
 mFin 2 h) fun h =>
 mXit 2 [(4, .own (y4_L1.map (eSl (eI .i64))))] (trim_chill (F0 := [(4, .own (y4_L1.map (eOw (eI .i64))))]) (l := y4_L1) (e := (eI .i64)) (e' := (eI .i64)) (s := 4) (by kernel_rfl) (by kernel_rfl) (by kernel_rfl) (fun _ => rfl) (by kernel_rfl) (by kernel_rfl)) <|
 mCalE 2 h (fun _ h => h) (fun r4 => cold_sown (l := r4.1) (e := (eSl (eI .i64))) rfl (fun _ => rfl)) (hf := (fun _ => clF_both)) fun r4 _ h =>
 mRet 2 h
theorem L2_step (x0 : List (Int × Int)) (y3_L2 : List ((Int × Int) × Int)) (y4_L1 : List (List Int)) (y12_L1 : Int) (y7_L2 : Int) (φ : List (List Int) → Prop) (h :
    ∃ a5, lget y4_L1 y7_L2 = some a5 ∧
    (a5.length + 1) * 8 ≤ 140737488355328 ∧
    partition_groups_2_int.L1 x0 y3_L2 ((lset y4_L1 y7_L2 (a5 ++ [y12_L1]))) ((IntKind.wrap .i64 (y12_L1 + 1))) φ) : L2 x0 y3_L2 y4_L1 y12_L1 y7_L2 φ :=
 mIn <|
 mIy 5 (eOw (eI .i64)) h fun a5 h6 h =>
 mLd 0 (eOw (eI .i64)) h6 <|
 h.elim fun h7 h =>
 mOp 2 (app2 (x := (.tmp 38)) (y := (.tmp 40)) (t := 38) (u := 38) (et := 3) (z := .lit (.int .i64 0)) (k := 1) (c := 8) (e := (eI .i64)) (l := a5) (m := [y12_L1]) (by kernel_rfl) (by kernel_rfl) (by kernel_rfl) (by kernel_rfl) (by kernel_rfl) (take_el (s := 4) (ps := []) (n := (y7_L2.toNat)) (c := 0) (e := (eOw (eI .i64))) (l := y4_L1) (a := a5) (by kernel_rfl) (by kernel_rfl) (lget_some h6).2 (by kernel_rfl) (by kernel_rfl) (setG_eq (by kernel_rfl))) (by kernel_rfl) (by kernel_rfl) (by kernel_rfl) (by kernel_rfl) (by kernel_rfl) (fun _ => rfl) h7) <|
 mVl 0 (val_idx_hole (s := 4) (ps := []) (cs := [.undef]) (t := 29) (x := (.tmp 33)) (ix := (.tmp 34)) (et := 38) (k := 1) (e := (eOw (eI .i64))) (l := y4_L1) (i := y7_L2) (q := .i64) (a := a5) (by kernel_rfl) (by kernel_rfl) (by kernel_rfl) (by kernel_rfl) (by kernel_rfl) (by kernel_rfl) h6 (by kernel_rfl)) <|
 mOp 0 (store2 (t := 38) (x := (.tmp 42)) (y := (.tmp 41)) (s := 4) (ps := []) (n := (y7_L2.toNat)) (e := (eOw (eI .i64))) (l := y4_L1) (a := a5) (b := (a5 ++ [y12_L1])) (k := 1) (cs := [.undef]) (d := .own (((a5 ++ [y12_L1])).map (eI .i64))) (by kernel_rfl) (by kernel_rfl) (by kernel_rfl) (by kernel_rfl) (lget_some h6).2 (by kernel_rfl) (by kernel_rfl) (by kernel_rfl) (by kernel_rfl) (by kernel_rfl) (setG_eq (by kernel_rfl))) <|
 mFin 5 h
theorem enter (x0 : List (Int × Int)) (φ : List (List Int) → Prop) (h :
    partition_groups_2_int.L1 x0 ([]) ([]) 0 φ) : ∃ r, φ r ∧ C x0 r :=
 mEnt (fd := Tryd.f42) (body := B) (V := W) (res := res) <|
 mLen 12 enc_arr2_Int x0 <|
 mFin 2 h
end partition_groups_2_int
end Go.Own

namespace Go.Own
def cls {α : Type} [DecidableEq α] (l : List α) (a : α) : List Int := ((List.range l.length).filter fun k => decide (l[k]? = some a)).map fun (k : Nat) => (k : Int)
def fsts {α : Type} [DecidableEq α] (l : List α) : List α := l.foldl (fun acc a => if a ∈ acc then acc else acc ++ [a]) []
def grpF {α : Type} [DecidableEq α] (l : List α) : List (List Int) := ((fsts l).map (cls l)).filter fun c => decide (2 ≤ c.length)
section
variable {α : Type} [DecidableEq α]
theorem fsts_snoc {l : List α} {a : α} : fsts (l ++ [a]) = if a ∈ fsts l then fsts l else fsts l ++ [a] := by
  unfold fsts
  rw [List.foldl_append]
  rfl
theorem list_snoc_ind {p : List α → Prop} (h0 : p []) (h1 : ∀ l a, p l → p (l ++ [a])) : ∀ l, p l := by
  intro l
  have : ∀ n (l : List α), l.length = n → p l := by
    intro n
    induction n with
    | zero => intro l hl; rw [List.length_eq_zero_iff.1 hl]; exact h0
    | succ n ih =>
      intro l hl
      have hne : l ≠ [] := fun h => by rw [h] at hl; simp at hl
      rw [← List.dropLast_concat_getLast hne]
      exact h1 _ _ (ih _ (by simp [hl]))
  exact this _ l rfl
theorem mem_fsts {l : List α} {a : α} : a ∈ fsts l ↔ a ∈ l := by
  refine list_snoc_ind (p := fun l => a ∈ fsts l ↔ a ∈ l) (by simp [fsts]) (fun l b ih => ?_) l
  rw [fsts_snoc]
  split
  · rename_i hb
    rw [ih]
    simp only [List.mem_append, List.mem_singleton]
    constructor
    · exact .inl
    · rintro (h | rfl)
      · exact h
      · have : a ∈ fsts l := hb
        exact ih.1 this
  · simp only [List.mem_append, List.mem_singleton, ih]
theorem fsts_nodup {l : List α} : (fsts l).Nodup := by
  refine list_snoc_ind (p := fun l => (fsts l).Nodup) (by simp [fsts]) (fun l b ih => ?_) l
  rw [fsts_snoc]
  split
  · exact ih
  · rename_i hb
    rw [List.nodup_append]
    exact ⟨ih, by simp, fun x hx y hy => by simp at hy; subst hy; exact fun h => hb (h ▸ hx)⟩
theorem cls_snoc {l : List α} {a b : α} : cls (l ++ [b]) a = if b = a then cls l a ++ [(l.length : Int)] else cls l a := by
  unfold cls
  rw [List.length_append, List.length_singleton, List.range_succ, List.filter_append, List.map_append]
  have h1 : ((List.range l.length).filter fun k => decide ((l ++ [b])[k]? = some a)) = (List.range l.length).filter fun k => decide (l[k]? = some a) := by
    refine List.filter_congr fun k hk => ?_
    rw [List.getElem?_append_left (by simpa using hk)]
  rw [h1]
  by_cases h : b = a
  · simp [h]
  · simp [h]
theorem cls_nil {a : α} : cls [] a = [] := rfl
theorem cls_out {l : List α} {a : α} (h : a ∉ l) : cls l a = [] := by
  unfold cls
  have : ((List.range l.length).filter fun k => decide (l[k]? = some a)) = [] := by
    rw [List.filter_eq_nil_iff]
    intro k _ hk
    exact h (List.mem_of_getElem? (by simpa using hk))
  rw [this]; rfl
theorem mem_cls {l : List α} {a : α} {i : Int} : i ∈ cls l a ↔ lget l i = some a := by
  unfold cls
  simp only [List.mem_map, List.mem_filter, List.mem_range, decide_eq_true_eq]
  constructor
  · rintro ⟨k, ⟨_, h⟩, rfl⟩; rw [lget_nat]; exact h
  · intro h
    obtain ⟨h0, h1⟩ := lget_some h
    exact ⟨i.toNat, ⟨(List.getElem?_eq_some_iff.1 h1).1, h1⟩, by omega⟩
end
namespace drossref08_group
theorem inner {x0 : List Int} {cs : List (List Int)} {i : Nat} {a : Int} {φ : api_Partition → Prop} (hn : x0.length ≤ 10000) (hcs : cs.length ≤ 10000) (hi : x0[i]? = some a) : ∀ (r : List Int) (k : Nat), x0.drop k = r →
    (if a ∈ x0.take i then L4 x0 cs i φ else if 2 ≤ (cls x0 a).length then L4 x0 (cs ++ [cls x0 a]) i φ else L4 x0 cs i φ) → L2 x0 cs i (cls (x0.take k) a) (decide (a ∈ x0.take (min k i))) k φ
  | [], k, hd, h => by
    apply L2_step
    have hk := drop_ge hd
    have hil := (List.getElem?_eq_some_iff.1 hi).1
    rw [if_neg (by omega), List.take_of_length_le hk, Nat.min_eq_right (by omega)]
    split at h
    · rename_i h1; rw [if_pos (by simpa using h1)]; exact h
    · rename_i h1
      rw [if_neg (by simpa using h1)]
      split at h
      · rename_i h2; rw [if_pos (by omega)]; exact ⟨by omega, h⟩
      · rename_i h2; rw [if_neg (by omega)]; exact h
  | b :: r, k, hd, h => by
    apply L2_step
    have hk := drop_lt hd
    rw [if_pos (by omega)]
    refine ⟨b, lget_drop hd, a, by rw [lget_nat]; exact hi, ?_⟩
    have htk : x0.take (k + 1) = x0.take k ++ [b] := by rw [List.take_add_one, drop_get hd]; rfl
    have hlen : (x0.take k).length = k := by rw [List.length_take]; omega
    have ih := inner hn hcs hi r (k + 1) (drop_next hd) h
    rw [htk, cls_snoc, hlen] at ih
    have hcl : (cls (x0.take k) a).length ≤ 10000 := by
      unfold cls
      rw [List.length_map]
      exact Nat.le_trans (List.length_filter_le _ _) (by simp; omega)
    split
    · rename_i hba
      subst hba
      rw [if_pos rfl] at ih
      refine ⟨by omega, ?_⟩
      have key : L3 x0 cs i (cls (x0.take k) b ++ [(k : Int)]) (decide (b ∈ x0.take (min (k + 1) i))) k φ := by
        apply L3_step
        rw [wrap_succ (by omega)]
        exact ih
      by_cases hki : k < i
      · have e1 : min (k + 1) i = k + 1 := by omega
        have e2 : b ∈ x0.take (k + 1) := by rw [htk]; simp
        rw [e1] at key
        simp only [e2, decide_true] at key
        split
        · exact key
        · rw [show decide ((k : Int) < (i : Int)) = true from by simp; omega]; exact key
      · have e1 : min (k + 1) i = i := by omega
        have e2 : min k i = i := by omega
        rw [e1] at key
        rw [e2]
        split
        · rename_i h3; rw [h3] at key; exact key
        · rename_i h3
          have h4 : decide (b ∈ x0.take i) = false := by simpa using h3
          rw [h4] at key
          rw [show decide ((k : Int) < (i : Int)) = false from by simp; omega]; exact key
    · rename_i hba
      rw [if_neg hba] at ih
      apply L3_step
      rw [wrap_succ (by omega)]
      have e : decide (a ∈ x0.take (min (k + 1) i)) = decide (a ∈ x0.take (min k i)) := by
        by_cases hki : k < i
        · have e1 : min (k + 1) i = k + 1 := by omega
          have e2 : min k i = k := by omega
          rw [e1, e2, htk]
          simp only [List.mem_append, List.mem_singleton, Ne.symm hba, or_false]
        · have e1 : min (k + 1) i = i := by omega
          have e2 : min k i = i := by omega
          rw [e1, e2]
      rw [e] at ih
      exact ih
theorem outer {x0 : List Int} {φ : api_Partition → Prop} (hn : x0.length ≤ 10000) : ∀ (r : List Int) (i : Nat), x0.drop i = r → φ ⟨x0.length, grpF x0⟩ →
    L1 x0 (((fsts (x0.take i)).map (cls x0)).filter fun c => decide (2 ≤ c.length)) i φ
  | [], i, hd, h => by
    apply L1_step
    have hk := drop_ge hd
    rw [if_neg (by omega), List.take_of_length_le hk]
    exact h
  | a :: r, i, hd, h => by
    apply L1_step
    have hk := drop_lt hd
    rw [if_pos (by omega)]
    have htk : x0.take (i + 1) = x0.take i ++ [a] := by rw [List.take_add_one, drop_get hd]; rfl
    have ih := outer hn r (i + 1) (drop_next hd) h
    rw [htk, fsts_snoc] at ih
    have hle : ∀ l : List Int, (fsts l).length ≤ l.length := by
      intro l
      refine list_snoc_ind (p := fun l => (fsts l).length ≤ l.length) (by simp [fsts]) (fun l b ih => ?_) l
      rw [fsts_snoc]
      split
      · simp; omega
      · simp; omega
    have := inner (φ := φ) (cs := ((fsts (x0.take i)).map (cls x0)).filter fun c => decide (2 ≤ c.length)) hn (by
      refine Nat.le_trans (List.length_filter_le _ _) ?_
      rw [List.length_map]
      have := hle (x0.take i)
      rw [List.length_take] at this; omega) (drop_get hd) x0 0 rfl
    rw [List.take_zero, Nat.zero_min, List.take_zero] at this
    refine this ?_
    have next : ∀ cs, L1 x0 cs ((i + 1 : Nat) : Int) φ → L4 x0 cs i φ := fun cs hc => by
      apply L4_step
      rw [wrap_succ (by omega)]
      exact hc
    split
    · rename_i h1
      rw [if_pos (mem_fsts.2 h1)] at ih
      exact next _ ih
    · rename_i h1
      rw [if_neg (fun h => h1 (mem_fsts.1 h)), List.map_append, List.filter_append] at ih
      split
      · rename_i h2
        refine next _ ?_
        simpa [h2] using ih
      · rename_i h2
        refine next _ ?_
        simpa [h2] using ih
theorem spec {x0 : List Int} (hn : x0.length ≤ 10000) : C x0 ⟨x0.length, grpF x0⟩ := by
  obtain ⟨r, h1, h2⟩ := enter x0 (fun r => r = ⟨x0.length, grpF x0⟩) (by
    have := outer (φ := fun r => r = ⟨x0.length, grpF x0⟩) hn x0 0 rfl rfl
    simpa [fsts] using this)
  rw [← h1]; exact h2
end drossref08_group
namespace drossref08_From
theorem loop {x0 : List Int} {φ : api_Partition → Prop} (hn : x0.length ≤ 10000) (hr : ∀ x ∈ x0, 0 ≤ x ∧ x < 256) : ∀ (r : List Int) (k : Nat), x0.drop k = r → φ ⟨x0.length, grpF x0⟩ → L1 x0 (x0.take k) k φ
  | [], k, hd, h => by
    apply L1_step
    have hk := drop_ge hd
    rw [if_neg (by omega), List.take_of_length_le hk]
    exact ⟨_, drossref08_group.spec hn, h⟩
  | a :: r, k, hd, h => by
    apply L1_step
    have hk := drop_lt hd
    rw [if_pos (by omega)]
    have ha := hr a (List.mem_of_getElem? (drop_get hd))
    refine ⟨a, lget_drop hd, by rw [List.length_take]; omega, ?_⟩
    have htk : x0.take (k + 1) = x0.take k ++ [a] := by rw [List.take_add_one, drop_get hd]; rfl
    rw [wrap_id (x := a) (by omega) (by omega), wrap_succ (by omega), ← htk]
    exact loop hn hr r (k + 1) (drop_next hd) h
theorem spec {x0 : List Int} (hn : x0.length ≤ 10000) (hr : ∀ x ∈ x0, 0 ≤ x ∧ x < 256) : C x0 ⟨x0.length, grpF x0⟩ := by
  obtain ⟨r, h1, h2⟩ := enter x0 (fun r => r = ⟨x0.length, grpF x0⟩) (loop hn hr x0 0 rfl rfl)
  rw [← h1]; exact h2
end drossref08_From
end Go.Own

namespace Go.Own
open Go.Proofs D
set_option maxRecDepth 100000
set_option maxHeartbeats 4000000
namespace partition_Product
noncomputable def B : Code := (Tryd.f20.body).getD .skip
def W : List Nat := [0, 1, 2, 3, 4, 5, 6, 7, 8, 9, 10, 15, 26, 27, 28]
def res (r : api_Partition × Int) : D × List D := (.tup [.agg [.lit (.int .i64 r.1.Rows), .sl (r.1.Classes.map (eSl (eI .i64)))], .lit (.int .i64 r.2)], [])
def C (x0 : api_Partition) (x1 : api_Partition) (r : api_Partition × Int) : Prop := Ret env 20 [.agg [.lit (.int .i64 x0.Rows), .sl (x0.Classes.map (eSl (eI .i64)))], .agg [.lit (.int .i64 x1.Rows), .sl (x1.Classes.map (eSl (eI .i64)))]] (res r).1 (res r).2
def L1 (x0 : api_Partition) (r2 : List Int) (r3 : List Int) (y9_L1 : List (Int × Int)) (y27_L1 : Int) (φ : api_Partition × Int → Prop) : Prop := Pt env 20 W B [1, 1, 1, 1, 0, 1, 0] [(0, .agg [.lit (.int .i64 x0.Rows), .sl (x0.Classes.map (eSl (eI .i64)))]), (2, .box [.lit (.int .i64 x0.Rows), .sl (x0.Classes.map (eSl (eI .i64)))]), (4, .box [.lit (.int .i64 0), .own []]), (7, .own (r2.map (eI .i64))), (8, .own (r3.map (eI .i64))), (9, .own (y9_L1.map enc_arr2_Int)), (26, .lit (.int .i64 (((List.replicate x0.Rows.toNat (⟨0, 0⟩ : (Int × Int))).length : Int)))), (27, .lit (.int .i64 y27_L1))] (Lv env 20 Tryd.f20 2 res φ)
theorem L1_step (x0 : api_Partition) (r2 : List Int) (r3 : List Int) (y9_L1 : List (Int × Int)) (y27_L1 : Int) (φ : api_Partition × Int → Prop) (h :
    (if y27_L1 < ((List.replicate x0.Rows.toNat (⟨0, 0⟩ : (Int × Int))).length : Int) then
      ∃ a5, lget r2 y27_L1 = some a5 ∧
      ∃ a7, lget r3 y27_L1 = some a7 ∧
      ∃ a9, lget y9_L1 y27_L1 = some a9 ∧
      partition_Product.L1 x0 r2 r3 ((lset y9_L1 y27_L1 ⟨a5, a7⟩)) ((IntKind.wrap .i64 (y27_L1 + 1))) φ
    else
      ∃ r11 : List (List Int), partition_groups_2_int.C y9_L1 r11 ∧
      φ (((⟨x0.Rows, r11⟩ : api_Partition), 0)))) : L1 x0 r2 r3 y9_L1 y27_L1 φ :=
 mIn <|
 mAsk 2 h dT dF (fun h =>
 mIy 12 (eI .i64) h fun a5 h6 h =>
 mLd 0 (eI .i64) h6 <|
 mIy 2 (eI .i64) h fun a7 h8 h =>
 mLd 0 (eI .i64) h8 <|
 mIy 1 enc_arr2_Int h fun a9 h10 h =>
 mSto 0 enc_arr2_Int (⟨a5, a7⟩) h10 <|
 mFin 5 h) fun h =>
 mXit 2 [(0, .agg [.lit (.int .i64 x0.Rows), .sl (x0.Classes.map (eSl (eI .i64)))]), (2, .box [.lit (.int .i64 x0.Rows), .sl (x0.Classes.map (eSl (eI .i64)))]), (4, .box [.lit (.int .i64 0), .own []]), (9, .sl (y9_L1.map enc_arr2_Int))] (trim_chillW (F0 := [(0, .agg [.lit (.int .i64 x0.Rows), .sl (x0.Classes.map (eSl (eI .i64)))]), (2, .box [.lit (.int .i64 x0.Rows), .sl (x0.Classes.map (eSl (eI .i64)))]), (4, .box [.lit (.int .i64 0), .own []]), (9, .own (y9_L1.map enc_arr2_Int))]) (l := y9_L1) (e := enc_arr2_Int) (e' := enc_arr2_Int) (s := 9) (by kernel_rfl) (by kernel_rfl) (by kernel_rfl) (fun _ => rfl) (by kernel_rfl) (by kernel_rfl)) <|
 mLo 4 h (fun _ h => h) fun r11 _ h =>
 mRet 4 h
theorem enter (x0 : api_Partition) (x1 : api_Partition) (φ : api_Partition × Int → Prop) (h :
    ∃ r1 : Int, partition_both.C x0 x1 r1 ∧
    (if r1 = 0 then
      ∃ r2 : List Int, partition_labels.C x0 r2 ∧
      ∃ r3 : List Int, partition_labels.C x1 r3 ∧
      (0 ≤ x0.Rows ∧ x0.Rows * 16 ≤ 281474976710656) ∧
      partition_Product.L1 x0 r2 r3 ((List.replicate x0.Rows.toNat (⟨0, 0⟩ : (Int × Int)))) 0 φ
    else
      φ (((⟨0, []⟩ : api_Partition), r1)))) : ∃ r, φ r ∧ C x0 x1 r :=
 mEnt (fd := Tryd.f20) (body := B) (V := W) (res := res) <|
 mCal 9 h (fun _ h => h) fun r1 _ h =>
 mAskN 4 h bne_t bne_f (fun h =>
 mRet 8 h) fun h =>
 mLo 5 h (fun _ h => h) (hf := (fun _ => loF_flat (flat_ow (e := (eI .i64)) (fun _ => rfl)))) fun r2 _ h =>
 mCal 1 h (fun _ h => h) (hf := (fun _ => clF_flat (flat_ow (e := (eI .i64)) (fun _ => rfl)) rfl)) fun r3 _ h =>
 h.elim fun h4 h =>
 mVl 6 (val_make (t := 73) (x := (.tmp 23)) (y := (.tmp 23)) (q := .i64) (i := x0.Rows) (et := 74) (z := .agg [.lit (.int .i64 0), .lit (.int .i64 0)]) (e := enc_arr2_Int) (a := (⟨0, 0⟩ : (Int × Int))) (k := 16) (by kernel_rfl) (by kernel_rfl) (by kernel_rfl) (by kernel_rfl) (by kernel_rfl) (by kernel_rfl) (by kernel_rfl) (by kernel_rfl) (by kernel_rfl) (by kernel_rfl) h4.1 h4.2) <|
 mLen 4 enc_arr2_Int ((List.replicate x0.Rows.toNat (⟨0, 0⟩ : (Int × Int)))) <|
 mFin 2 h
end partition_Product
end Go.Own

namespace Go.Own
theorem partition_groups_2_int_1.spec {c : List Int} : partition_groups_2_int_1.C c (decide ((c.length : Int) < 2)) := by
  obtain ⟨r, h1, h2⟩ := partition_groups_2_int_1.enter c (fun r => r = decide ((c.length : Int) < 2)) rfl
  rw [← h1]; exact h2
def keepC (c : List Int) : Bool := decide (2 ≤ c.length)
theorem keepC_iff {c : List Int} : decide ((c.length : Int) < 2) = !keepC c := by
  unfold keepC
  by_cases h : (c.length : Int) < 2
  · have : ¬ 2 ≤ c.length := by omega
    simp [h, this]
  · have : 2 ≤ c.length := by omega
    simp [h, this]
def firstOut : List (List Int) → Nat → Int
  | [], _ => -1
  | c :: cs, k => if keepC c then firstOut cs (k + 1) else (k : Int)
namespace slices_IndexFunc_ssint_sint_partition_groups_2_int_1
theorem loop {x0 : List (List Int)} {φ : Int → Prop} (hn : x0.length < Big) : ∀ (r : List (List Int)) (k : Nat), x0.drop k = r → φ (firstOut r k) → L1 x0 k φ
  | [], k, hd, h => by
    apply L1_step
    have := drop_ge hd
    rw [if_neg (by omega)]
    exact h
  | c :: r, k, hd, h => by
    apply L1_step
    have hk := drop_lt hd
    rw [if_pos (by omega)]
    refine ⟨c, lget_drop hd, _, partition_groups_2_int_1.spec, ?_⟩
    rw [keepC_iff]
    simp only [firstOut] at h
    split
    · rename_i h1
      have : keepC c = false := by simpa using h1
      rw [this] at h; exact h
    · rename_i h1
      have : keepC c = true := by simpa using h1
      rw [this] at h
      rw [wrap_succ (by unfold Big at hn; omega)]
      exact loop hn r (k + 1) (drop_next hd) h
theorem spec {x0 : List (List Int)} (hn : x0.length < Big) : C x0 (firstOut x0 0) := by
  obtain ⟨r, h1, h2⟩ := enter x0 (fun r => r = firstOut x0 0) (loop hn x0 0 rfl rfl)
  rw [← h1]; exact h2
end slices_IndexFunc_ssint_sint_partition_groups_2_int_1
theorem firstOut_spec : ∀ {l : List (List Int)} {k : Nat}, (firstOut l k = -1 ∧ ∀ c ∈ l, keepC c = true) ∨ ∃ n : Nat, firstOut l k = ((k + n : Nat) : Int) ∧ n < l.length ∧ (∀ c ∈ l.take n, keepC c = true) ∧ ∃ c, l[n]? = some c ∧ keepC c = false
  | [], _ => .inl ⟨rfl, by simp⟩
  | c :: l, k => by
    simp only [firstOut]
    cases hc : keepC c with
    | false => exact .inr ⟨0, by simp, by simp, by simp, c, rfl, hc⟩
    | true =>
      simp only [if_true]
      rcases firstOut_spec (l := l) (k := k + 1) with ⟨h1, h2⟩ | ⟨n, h1, h2, h3, h4⟩
      · exact .inl ⟨h1, by simpa [hc] using h2⟩
      · refine .inr ⟨n + 1, by rw [h1]; congr 1; omega, by simpa using h2, by simpa [hc] using h3, by simpa using h4⟩
namespace slices_DeleteFunc_ssint_sint_partition_groups_2_int_1
theorem loop {x0 : List (List Int)} {φ : List (List Int) × Bool → Prop} (hn : x0.length < Big) (hφ : ∀ b, φ (x0.filter keepC, b)) : ∀ (r : List (List Int)) (k j : Nat) (l : List (List Int)), x0.drop k = r → l.length = x0.length → l.drop k = x0.drop k → l.take j = (x0.take k).filter keepC → j ≤ k → k ≤ x0.length → L1 l j k φ
  | [], k, j, l, hd, hl, h1, h2, h3, h4 => by
    apply L1_step
    have hk := drop_ge hd
    rw [if_neg (by omega)]
    refine ⟨by omega, ⟨by omega, by omega⟩, by omega, by omega, by omega, by omega, ⟨by omega, by omega, by omega⟩, ?_⟩
    rw [Int.toNat_natCast, h2, List.take_of_length_le hk]
    exact hφ _
  | c :: r, k, j, l, hd, hl, h1, h2, h3, h4 => by
    apply L1_step
    have hk := drop_lt hd
    rw [if_pos (by omega)]
    have hlk : l.drop k = c :: r := by rw [h1, hd]
    refine ⟨c, lget_drop hlk, _, partition_groups_2_int_1.spec, ?_⟩
    rw [keepC_iff]
    have htk : x0.take (k + 1) = x0.take k ++ [c] := by rw [List.take_add_one, drop_get hd]; rfl
    split
    · rename_i hc
      have hc : keepC c = false := by simpa using hc
      apply L2_step
      rw [wrap_succ (by unfold Big at hn; omega)]
      refine loop hn hφ r (k + 1) j l (drop_next hd) hl ?_ ?_ (by omega) (by omega)
      · rw [drop_next hlk, drop_next hd]
      · rw [htk, List.filter_append, h2]; simp [hc]
    · rename_i hc
      have hc : keepC c = true := by simpa using hc
      obtain ⟨a, ha⟩ := lget_lt (l := l) (i := (j : Int)) (by omega) (by omega)
      refine ⟨a, ha, ?_⟩
      apply L2_step
      rw [wrap_succ (by unfold Big at hn; omega), wrap_succ (by unfold Big at hn; omega)]
      have hs : lset l (j : Int) c = l.set j c := by simp [lset]
      rw [hs]
      refine loop hn hφ r (k + 1) (j + 1) (l.set j c) (drop_next hd) (by simp [hl]) ?_ ?_ (by omega) (by omega)
      · rw [List.drop_set_of_lt (by omega), drop_next hlk, drop_next hd]
      · rw [htk, List.filter_append, ← h2, List.take_add_one]
        have e1 : (l.set j c)[j]? = some c := by rw [List.getElem?_set_self (by omega)]
        rw [e1, List.take_set_of_le (by omega)]
        simp [hc]
theorem spec {x0 : List (List Int)} (hn : x0.length < Big) : ∃ b, C x0 (x0.filter keepC, b) := by
  obtain ⟨r, h1, h2⟩ := enter x0 (fun r => r.1 = x0.filter keepC) (by
    refine ⟨_, slices_IndexFunc_ssint_sint_partition_groups_2_int_1.spec hn, ?_⟩
    rcases firstOut_spec (l := x0) (k := 0) with ⟨h1, h2⟩ | ⟨n, h1, h2, h3, c, h4, h5⟩
    · rw [if_pos h1]
      exact (List.filter_eq_self.2 h2).symm
    · rw [if_neg (by omega), h1, Nat.zero_add, wrap_succ (by unfold Big at hn; omega)]
      refine loop (φ := fun r => r.1 = x0.filter keepC) hn (fun b => rfl) _ (n + 1) n x0 rfl rfl rfl ?_ (by omega) (by omega)
      have htk : x0.take (n + 1) = x0.take n ++ [c] := by rw [List.take_add_one, h4]; rfl
      rw [htk, List.filter_append, List.filter_eq_self.2 h3]
      simp [h5])
  obtain ⟨l, b⟩ := r
  simp only at h1
  subst h1
  exact ⟨b, h2⟩
end slices_DeleteFunc_ssint_sint_partition_groups_2_int_1
def ixn {α : Type} [DecidableEq α] : List α → α → Nat
  | [], _ => 0
  | b :: l, a => if b = a then 0 else ixn l a + 1
theorem ixn_lt {α : Type} [DecidableEq α] {a : α} : ∀ {l : List α}, a ∈ l → ixn l a < l.length
  | [], h => by cases h
  | b :: l, h => by
    simp only [ixn, List.length_cons]
    split
    · omega
    · rename_i hb
      have := ixn_lt (l := l) (a := a) ((List.mem_cons.1 h).resolve_left fun h => hb h.symm)
      omega
theorem ixn_get {α : Type} [DecidableEq α] {a : α} : ∀ {l : List α}, a ∈ l → l[ixn l a]? = some a
  | [], h => by cases h
  | b :: l, h => by
    simp only [ixn]
    split
    · rename_i hb; subst hb; rfl
    · rename_i hb
      rw [List.getElem?_cons_succ]
      exact ixn_get ((List.mem_cons.1 h).resolve_left fun h => hb h.symm)
theorem ixn_in {α : Type} [DecidableEq α] {a : α} : ∀ {l m : List α}, a ∈ l → ixn (l ++ m) a = ixn l a
  | [], _, h => by cases h
  | b :: l, m, h => by
    simp only [List.cons_append, ixn]
    split
    · rfl
    · rename_i hb
      rw [ixn_in ((List.mem_cons.1 h).resolve_left fun h => hb h.symm)]
theorem idx_snoc {α : Type} [DecidableEq α] {a : α} : ∀ {l : List α}, a ∉ l → ixn (l ++ [a]) a = l.length
  | [], _ => by simp [ixn]
  | b :: l, h => by
    simp only [List.mem_cons, not_or] at h
    simp only [List.cons_append, ixn, if_neg (Ne.symm h.1), List.length_cons]
    rw [idx_snoc h.2]
theorem ixn_uniq {α : Type} [DecidableEq α] {a : α} : ∀ {l : List α} {q : Nat}, l.Nodup → l[q]? = some a → ixn l a = q
  | [], q, _, h => by simp at h
  | b :: l, 0, _, h => by
    simp only [List.getElem?_cons_zero, Option.some.injEq] at h
    simp [ixn, h]
  | b :: l, q + 1, hl, h => by
    simp only [List.getElem?_cons_succ] at h
    have hn := List.nodup_cons.1 hl
    have : b ≠ a := fun hb => hn.1 (hb ▸ List.mem_of_getElem? h)
    simp only [ixn, if_neg this, ixn_uniq hn.2 h]
def ixOf {α : Type} [DecidableEq α] (m : List (α × Int)) (ks : List α) : Prop := ∀ a, mget a m = if a ∈ ks then some ((ixn ks a : Nat) : Int) else none
theorem mget_mset {κ ν : Type} [DecidableEq κ] {k k' : κ} {v : ν} : ∀ {l : List (κ × ν)}, mget k' (mset k v l) = if k = k' then some v else mget k' l
  | [] => by
    by_cases h : k = k'
    · subst h; simp [mset, mget]
    · simp [mset, mget, h, Ne.symm h]
  | (a, b) :: l => by
    have ih := mget_mset (k := k) (k' := k') (v := v) (l := l)
    simp only [mset]
    by_cases h1 : k = a
    · subst h1
      simp only [if_true, mget]
      by_cases h2 : k' = k
      · subst h2; simp
      · simp [h2, Ne.symm h2]
    · simp only [if_neg h1, mget]
      by_cases h2 : k' = a
      · subst h2; simp [h1]
      · simp only [if_neg h2]; exact ih
namespace partition_groups_2_int
theorem loop {x0 : List (Int × Int)} {φ : List (List Int) → Prop} (hn : x0.length ≤ 10000) (hφ : φ (grpF x0)) : ∀ (r : List (Int × Int)) (k : Nat) (m : List ((Int × Int) × Int)), x0.drop k = r → ixOf m (fsts (x0.take k)) → L1 x0 m ((fsts (x0.take k)).map (cls (x0.take k))) k φ
  | [], k, m, hd, hm => by
    apply L1_step
    have hk := drop_ge hd
    rw [if_neg (by omega), List.take_of_length_le hk]
    have hlen : ((fsts x0).map (cls x0)).length < Big := by
      rw [List.length_map]
      have : ∀ l : List (Int × Int), (fsts l).length ≤ l.length := by
        intro l
        refine list_snoc_ind (p := fun l => (fsts l).length ≤ l.length) (by simp [fsts]) (fun l b ih => ?_) l
        rw [fsts_snoc]
        split
        · simp; omega
        · simp; omega
      have := this x0
      unfold Big; omega
    obtain ⟨b, hb⟩ := slices_DeleteFunc_ssint_sint_partition_groups_2_int_1.spec hlen
    exact ⟨_, hb, hφ⟩
  | a :: r, k, m, hd, hm => by
    apply L1_step
    have hk := drop_lt hd
    rw [if_pos (by omega)]
    refine ⟨a, lget_drop hd, ?_⟩
    have htk : x0.take (k + 1) = x0.take k ++ [a] := by rw [List.take_add_one, drop_get hd]; rfl
    have hlen : (x0.take k).length = k := by rw [List.length_take]; omega
    have hle : (fsts (x0.take k)).length ≤ 10000 := by
      have : ∀ l : List (Int × Int), (fsts l).length ≤ l.length := by
        intro l
        refine list_snoc_ind (p := fun l => (fsts l).length ≤ l.length) (by simp [fsts]) (fun l b ih => ?_) l
        rw [fsts_snoc]
        split
        · simp; omega
        · simp; omega
      have := this (x0.take k)
      omega
    have hcl : ∀ b, (cls (x0.take k) b).length ≤ 10000 := fun b => by
      unfold cls
      rw [List.length_map]
      exact Nat.le_trans (List.length_filter_le _ _) (by simp; omega)
    by_cases ha : a ∈ fsts (x0.take k)
    · have hg : mget a m = some ((ixn (fsts (x0.take k)) a : Nat) : Int) := by rw [hm a, if_pos ha]
      rw [if_pos (by simp [mhas, hg])]
      apply L2_step
      have hi : ixn (fsts (x0.take k)) a < (fsts (x0.take k)).length := ixn_lt ha
      have hgd : mgetD a m 0 = ((ixn (fsts (x0.take k)) a : Nat) : Int) := by simp [mgetD, hg]
      rw [hgd]
      refine ⟨cls (x0.take k) a, ?_, by have := hcl a; omega, ?_⟩
      · rw [lget_nat, List.getElem?_map, ixn_get ha]; rfl
      · rw [wrap_succ (by omega)]
        have ih := loop hn hφ r (k + 1) m (drop_next hd) (by rw [htk, fsts_snoc, if_pos ha]; exact hm)
        rw [htk, fsts_snoc, if_pos ha] at ih
        have e : (fsts (x0.take k)).map (cls (x0.take k ++ [a])) = lset ((fsts (x0.take k)).map (cls (x0.take k))) ((ixn (fsts (x0.take k)) a : Nat) : Int) (cls (x0.take k) a ++ [(k : Int)]) := by
          unfold lset
          rw [Int.toNat_natCast]
          apply List.ext_getElem?
          intro q
          rw [List.getElem?_map, List.getElem?_set, List.getElem?_map, List.length_map]
          by_cases hq : ixn (fsts (x0.take k)) a = q
          · subst hq
            rw [if_pos rfl, if_pos hi, ixn_get ha]
            simp [cls_snoc, hlen]
          · rw [if_neg hq]
            cases hv : (fsts (x0.take k))[q]? with
            | none => rfl
            | some b =>
              simp only [Option.map_some, Option.some.injEq]
              rw [cls_snoc, if_neg]
              rintro rfl
              exact hq (ixn_uniq fsts_nodup hv)
        rw [e] at ih
        exact ih
    · have hg : mget a m = none := by rw [hm a, if_neg ha]
      rw [if_neg (by simp [mhas, hg])]
      have hal : a ∉ x0.take k := fun h => ha (mem_fsts.2 h)
      refine ⟨by rw [List.length_map]; omega, ?_⟩
      apply L2_step
      refine ⟨[], ?_, by simp, ?_⟩
      · rw [lget_nat, List.getElem?_append_right (Nat.le_refl _)]; simp
      · rw [wrap_succ (by omega), List.length_map]
        have ih := loop hn hφ r (k + 1) (mset a ((fsts (x0.take k)).length : Int) m) (drop_next hd) (by
          rw [htk, fsts_snoc, if_neg ha]
          intro b
          rw [mget_mset]
          by_cases hab : a = b
          · subst hab
            rw [if_pos rfl, if_pos (by simp), idx_snoc ha]
          · rw [if_neg hab, hm b]
            have : b ∈ fsts (x0.take k) ++ [a] ↔ b ∈ fsts (x0.take k) := by simp [Ne.symm hab]
            by_cases hb : b ∈ fsts (x0.take k)
            · rw [if_pos hb, if_pos (this.2 hb), ixn_in hb]
            · rw [if_neg hb, if_neg (fun h => hb (this.1 h))])
        rw [htk, fsts_snoc, if_neg ha] at ih
        have e : (fsts (x0.take k) ++ [a]).map (cls (x0.take k ++ [a])) = lset ((fsts (x0.take k)).map (cls (x0.take k)) ++ [[]]) ((fsts (x0.take k)).length : Int) ([] ++ [(k : Int)]) := by
          unfold lset
          rw [Int.toNat_natCast, List.set_append_right _ _ (by simp), List.length_map, Nat.sub_self, List.set_cons_zero, List.map_append]
          congr 1
          · refine List.map_congr_left fun b hb => ?_
            rw [cls_snoc, if_neg]
            rintro rfl; exact ha hb
          · simp [cls_snoc, cls_out hal, hlen]
        rw [e] at ih
        exact ih
theorem spec {x0 : List (Int × Int)} (hn : x0.length ≤ 10000) : C x0 (grpF x0) := by
  obtain ⟨r, h1, h2⟩ := enter x0 (fun r => r = grpF x0) (by
    have := loop (φ := fun r => r = grpF x0) hn rfl x0 0 [] rfl (by intro a; simp [mget, fsts])
    simpa [fsts] using this)
  rw [← h1]; exact h2
end partition_groups_2_int
def zipL (l m : List Int) : List (Int × Int) := l.zip m
def prodF (a b : api_Partition) : api_Partition × Int := if bothF a b = 0 then (⟨a.Rows, grpF (zipL (labN a) (labN b))⟩, 0) else (⟨0, []⟩, bothF a b)
namespace partition_Product
theorem loop {x0 : api_Partition} {l m : List Int} {φ : api_Partition × Int → Prop} (h0 : 0 ≤ x0.Rows) (h1 : x0.Rows ≤ 1000) (hl : l.length = x0.Rows.toNat) (hm : m.length = x0.Rows.toNat) (hφ : φ (⟨x0.Rows, grpF (zipL l m)⟩, 0)) : ∀ (n k : Nat), k + n = x0.Rows.toNat → L1 x0 l m ((zipL l m).take k ++ List.replicate n (0, 0)) k φ
  | 0, k, hk => by
    apply L1_step
    rw [if_neg (by simp; omega)]
    have hz : (zipL l m).length = x0.Rows.toNat := by simp [zipL, hl, hm]
    rw [List.take_of_length_le (by omega), List.replicate_zero, List.append_nil]
    exact ⟨_, partition_groups_2_int.spec (by omega), hφ⟩
  | n + 1, k, hk => by
    apply L1_step
    have hz : (zipL l m).length = x0.Rows.toNat := by simp [zipL, hl, hm]
    rw [if_pos (by simp; omega)]
    have hlk := List.getElem?_eq_getElem (l := l) (i := k) (by omega)
    have hmk := List.getElem?_eq_getElem (l := m) (i := k) (by omega)
    have htl : ((zipL l m).take k).length = k := by rw [List.length_take]; omega
    refine ⟨l[k], by rw [lget_nat]; exact hlk, m[k], by rw [lget_nat]; exact hmk, (0, 0), ?_, ?_⟩
    · rw [lget_nat, List.getElem?_append_right (by omega), htl, Nat.sub_self, List.replicate_succ]; rfl
    · rw [wrap_succ (by omega)]
      have : lset ((zipL l m).take k ++ List.replicate (n + 1) (0, 0)) (k : Int) (l[k], m[k]) = (zipL l m).take (k + 1) ++ List.replicate n (0, 0) := by
        unfold lset
        rw [Int.toNat_natCast, List.set_append_right _ _ (by omega), htl, Nat.sub_self, List.replicate_succ, List.set_cons_zero, List.take_add_one]
        have : (zipL l m)[k]? = some (l[k], m[k]) := by
          unfold zipL
          rw [List.getElem?_zip_eq_some]
          exact ⟨hlk, hmk⟩
        rw [this]
        simp
      rw [this]
      exact loop h0 h1 hl hm hφ n (k + 1) (by omega)
theorem spec {a b : api_Partition} (ha : Small a) (hb : Small b) : C a b (prodF a b) := by
  obtain ⟨r, h1, h2⟩ := enter a b (fun r => r = prodF a b) (by
    refine ⟨_, partition_both.spec ha hb, ?_⟩
    unfold prodF
    split
    · rename_i h
      have h' := h
      unfold bothF at h
      split at h
      · rename_i va
        split at h
        · rename_i vb
          split at h
          · rename_i hr
            obtain ⟨v1, v2, v3⟩ := valid_iff.1 va
            refine ⟨_, partition_labels.spec ha va, _, partition_labels.spec hb vb, by omega, ?_⟩
            have := loop (φ := fun r => r = (⟨a.Rows, grpF (zipL (labN a) (labN b))⟩, 0)) v1 v2 labN_len (by rw [labN_len, hr]) rfl a.Rows.toNat 0 (by omega)
            simpa using this
          · omega
        · omega
      · omega
    · rfl)
  rw [← h1]; exact h2
end partition_Product
end Go.Own

namespace Go.Own
open Go.Proofs D
set_option maxRecDepth 100000
set_option maxHeartbeats 4000000
namespace partition_groups_string_1
noncomputable def B : Code := (Tryd.f75.body).getD .skip
def W : List Nat := [0, 2]
def res (r : Bool) : D × List D := (.lit (.bool r), [])
def C (x0 : List Int) (r : Bool) : Prop := Ret env 75 [.sl (x0.map (eI .i64))] (res r).1 (res r).2
theorem enter (x0 : List Int) (φ : Bool → Prop) (h :
    φ ((decide ((x0.length : Int) < 2)))) : ∃ r, φ r ∧ C x0 r :=
 mEnt (fd := Tryd.f75) (body := B) (V := W) (res := res) <|
 mLen 5 (eI .i64) x0 <|
 mRet 3 h
end partition_groups_string_1
end Go.Own

namespace Go.Own
open Go.Proofs D
set_option maxRecDepth 100000
set_option maxHeartbeats 4000000
namespace slices_IndexFunc_ssint_sint_partition_groups_string_1
noncomputable def B : Code := (Tryd.f66.body).getD .skip
def W : List Nat := [0, 1, 4, 5, 7, 8, 9, 16]
def res (r : Int) : D × List D := (.lit (.int .i64 r), [])
def C (x0 : List (List Int)) (r : Int) : Prop := Ret env 66 [.sl (x0.map (eSl (eI .i64))), .fn 75 []] (res r).1 (res r).2
def L1 (x0 : List (List Int)) (y8_L1 : Int) (φ : Int → Prop) : Prop := Pt env 66 W B [1, 0, 1, 0] [(0, .sl (x0.map (eSl (eI .i64)))), (1, .fn 75 []), (7, .lit (.int .i64 ((x0.length : Int)))), (8, .lit (.int .i64 y8_L1))] (Lv env 66 Tryd.f66 2 res φ)
theorem L1_step (x0 : List (List Int)) (y8_L1 : Int) (φ : Int → Prop) (h :
    (if y8_L1 < (x0.length : Int) then
      ∃ a1, lget x0 y8_L1 = some a1 ∧
      ∃ r3 : Bool, partition_groups_string_1.C a1 r3 ∧
      (if r3 = true then
        φ y8_L1
      else
        slices_IndexFunc_ssint_sint_partition_groups_string_1.L1 x0 ((IntKind.wrap .i64 (y8_L1 + 1))) φ)
    else
      φ ((-1)))) : L1 x0 y8_L1 φ :=
 mIn <|
 mAsk 2 h dT dF (fun h =>
 mIx 11 (eSl (eI .i64)) h fun a1 h2 h =>
 mCalB 1 h (fun _ h => h) (fun _ h =>
 mRet 6 h) fun _ h =>
 mFin 7 h) fun h =>
 mRet 6 h
theorem enter (x0 : List (List Int)) (φ : Int → Prop) (h :
    slices_IndexFunc_ssint_sint_partition_groups_string_1.L1 x0 0 φ) : ∃ r, φ r ∧ C x0 r :=
 mEnt (fd := Tryd.f66) (body := B) (V := W) (res := res) <|
 mLen 5 (eSl (eI .i64)) x0 <|
 mFin 2 h
end slices_IndexFunc_ssint_sint_partition_groups_string_1
end Go.Own

namespace Go.Own
open Go.Proofs D
set_option maxRecDepth 100000
set_option maxHeartbeats 4000000
namespace slices_DeleteFunc_ssint_sint_partition_groups_string_1
noncomputable def B : Code := (Tryd.f63.body).getD .skip
def W : List Nat := [0, 1, 4, 5, 6, 7, 12, 19, 29]
def res (r : (List (List Int) × Bool)) : D × List D := ((sown (r.1.map (eSl (eI .i64))) r.2), [])
def C (k0_0 : List (List Int)) (r : (List (List Int) × Bool)) : Prop := Ret env 63 [.own (k0_0.map (eSl (eI .i64))), .fn 75 []] (res r).1 (res r).2
def L1 (k0_0 : List (List Int)) (r1 : Int) (y6_L1 : Int) (φ : (List (List Int) × Bool) → Prop) : Prop := Pt env 63 W B [1, 1, 1, 0, 1, 0] [(0, .own (k0_0.map (eSl (eI .i64)))), (1, .fn 75 []), (5, .lit (.int .i64 r1)), (6, .lit (.int .i64 y6_L1))] (Lv env 63 Tryd.f63 2 res φ)
def L2 (k0_0 : List (List Int)) (r1 : Int) (y6_L1 : Int) (φ : (List (List Int) × Bool) → Prop) : Prop := Pt env 63 W B [1, 1, 1, 0, 1, 0, 0, 1, 1] [(0, .own (k0_0.map (eSl (eI .i64)))), (1, .fn 75 []), (5, .lit (.int .i64 r1)), (6, .lit (.int .i64 y6_L1))] (Lv env 63 Tryd.f63 2 res φ)
theorem L1_step (k0_0 : List (List Int)) (r1 : Int) (y6_L1 : Int) (φ : (List (List Int) × Bool) → Prop) (h :
    (if y6_L1 < (k0_0.length : Int) then
      ∃ a2, lget k0_0 y6_L1 = some a2 ∧
      ∃ r4 : Bool, partition_groups_string_1.C a2 r4 ∧
      (if r4 = true then
        slices_DeleteFunc_ssint_sint_partition_groups_string_1.L2 k0_0 r1 y6_L1 φ
      else
        ∃ a5, lget k0_0 r1 = some a5 ∧
        slices_DeleteFunc_ssint_sint_partition_groups_string_1.L2 ((lset k0_0 r1 a2)) ((IntKind.wrap .i64 (r1 + 1))) y6_L1 φ)
    else
      0 ≤ r1 ∧
      (r1.toNat ≤ k0_0.length ∧ k0_0.length ≤ k0_0.length) ∧
      r1.toNat + (k0_0.length - r1.toNat) ≤ k0_0.length ∧
      0 ≤ r1 ∧
      r1.toNat + (k0_0.length - r1.toNat) ≤ k0_0.length ∧
      r1.toNat ≤ k0_0.length ∧
      (r1.toNat + (k0_0.length - r1.toNat) ≤ k0_0.length ∧ r1.toNat ≤ k0_0.length ∧ r1.toNat ≤ r1.toNat) ∧
      φ (⟨(List.take r1.toNat k0_0), (!(((List.take r1.toNat k0_0)).isEmpty))⟩))) : L1 k0_0 r1 y6_L1 φ :=
 mIn <|
 mLen 4 (eSl (eI .i64)) k0_0 <|
 mAsk 0 h dT dF (fun h =>
 mIy 6 (eSl (eI .i64)) h fun a2 h3 h =>
 mLd 0 (eSl (eI .i64)) h3 <|
 mCalB 5 h (fun _ h => h) (fun _ h =>
 mFin 4 h) fun _ h =>
 mIy 7 (eSl (eI .i64)) h fun a5 h6 h =>
 mSto 0 (eSl (eI .i64)) a2 h6 <|
 mFin 6 h) fun h =>
 h.elim fun h7 h =>
 h.elim fun h8 h =>
 mVl 6 (val_slice_ow (s := 0) (ps := []) (t := 29) (x := (.tmp 36)) (lo := (some (.tmp 37))) (hi := none) (lo' := some (r1).toNat) (hi' := none) (e := (eSl (eI .i64))) (l := k0_0) (et := 38) (k := 1) (by kernel_rfl) (by kernel_rfl) (elemsOf_ow (by kernel_rfl)) (optNat_some (i := r1) (q := .i64) (by kernel_rfl) h7) optNat_none (by kernel_rfl) (by kernel_rfl) (fun _ => rfl) (by kernel_rfl) h8.1 h8.2) <|
 h.elim fun h9 h =>
 mOp 0 (op_clear (t := 29) (x := (.tmp 38)) (s := 0) (ps := []) (off := r1.toNat) (len := (k0_0.length - r1.toNat)) (l := k0_0) (e := (eSl (eI .i64))) (et := 38) (z := .own []) (k := 1) (by kernel_rfl) (by kernel_rfl) (by kernel_rfl) (by kernel_rfl) (by kernel_rfl) (by kernel_rfl) (by kernel_rfl) (by kernel_rfl) (fun _ => rfl) h9 (by kernel_rfl)) <|
 h.elim fun h10 h =>
 h.elim fun h11 h =>
 h.elim fun h12 h =>
 mVl 4 (val_slice_clr (t := 29) (x := (.tmp 39)) (hi := (some (.tmp 40))) (hi' := r1.toNat) (e := (eSl (eI .i64))) (l := k0_0) (off := r1.toNat) (len := (k0_0.length - r1.toNat)) (z := .own []) (et := 38) (k := 1) (s := 0) (ps := []) (by kernel_rfl) (by kernel_rfl) (by kernel_rfl) (optNat_some (i := r1) (q := .i64) (by kernel_rfl) h10) (by kernel_rfl) (by kernel_rfl) (fun _ => rfl) (by kernel_rfl) (by kernel_rfl) h11 h12) <|
 h.elim fun h13 h =>
 mRet 2 h (hl := (leave_sub (t := 4) (s := 0) (n := r1.toNat) (m := (List.take r1.toNat k0_0)) (e := (eSl (eI .i64))) (es := clr (eSl (eI .i64)) k0_0 r1.toNat (k0_0.length - r1.toNat) (.own [])) (by kernel_rfl) (by kernel_rfl) (by kernel_rfl) (by rw [clr_len (by first | exact h13.1 | omega)]; exact h13.2.1) (clr_take h13.1 h13.2.2) (by kernel_rfl)))
theorem L2_step (k0_0 : List (List Int)) (r1 : Int) (y6_L1 : Int) (φ : (List (List Int) × Bool) → Prop) (h :
    slices_DeleteFunc_ssint_sint_partition_groups_string_1.L1 k0_0 r1 ((IntKind.wrap .i64 (y6_L1 + 1))) φ) : L2 k0_0 r1 y6_L1 φ :=
 mIn <|
 mFin 5 h
theorem enter (k0_0 : List (List Int)) (φ : (List (List Int) × Bool) → Prop) (h :
    ∃ r1 : Int, slices_IndexFunc_ssint_sint_partition_groups_string_1.C k0_0 r1 ∧
    (if r1 = (-1) then
      φ (⟨k0_0, true⟩)
    else
      slices_DeleteFunc_ssint_sint_partition_groups_string_1.L1 k0_0 r1 ((IntKind.wrap .i64 (r1 + 1))) φ)) : ∃ r, φ r ∧ C k0_0 r :=
 mEnt (fd := Tryd.f63) (body := B) (V := W) (res := res) <|
 mCal 6 h (fun _ h => h) (hr := (pr_snap (snap_ow (s := 0) (ps := []) (l := k0_0) (e := (eSl (eI .i64))) (e' := (eSl (eI .i64))) (fun _ => rfl) (by kernel_rfl)) (pr_k pr_nil))) fun r1 _ h =>
 mAsk 4 h beq_t beq_f (fun h =>
 mRet 6 h) fun h =>
 mFin 8 h
end slices_DeleteFunc_ssint_sint_partition_groups_string_1
end Go.Own

namespace Go.Own
open Go.Proofs D
set_option maxRecDepth 100000
set_option maxHeartbeats 4000000
namespace partition_groups_string
noncomputable def B : Code := (Tryd.f57.body).getD .skip
def W : List Nat := [0, 2, 3, 4, 5, 6, 7, 8, 10, 11, 12, 13, 24]
def res (r : List (List Int)) : D × List D := (.sl (r.map (eSl (eI .i64))), [])
def C (x0 : List ByteArray) (r : List (List Int)) : Prop := Ret env 57 [.sl (x0.map eS)] (res r).1 (res r).2
def L1 (x0 : List ByteArray) (y3_L1 : List (ByteArray × Int)) (y4_L1 : List (List Int)) (y12_L1 : Int) (φ : List (List Int) → Prop) : Prop := Pt env 57 W B [1, 1, 1, 0, 1, 0] [(0, .sl (x0.map eS)), (3, (eMap Value.string (fun (x : Int) => D.lit (.int .i64 x)) y3_L1)), (4, .own (y4_L1.map (eOw (eI .i64)))), (10, .sl (x0.map eS)), (11, .lit (.int .i64 ((x0.length : Int)))), (12, .lit (.int .i64 y12_L1))] (Lv env 57 Tryd.f57 1 res φ)
def L2 (x0 : List ByteArray) (y3_L2 : List (ByteArray × Int)) (y4_L1 : List (List Int)) (y12_L1 : Int) (y7_L2 : Int) (φ : List (List Int) → Prop) : Prop := Pt env 57 W B [1, 1, 1, 0, 1, 0, 0, 1, 1, 0, 0, 1, 1, 1] [(0, .sl (x0.map eS)), (3, (eMap Value.string (fun (x : Int) => D.lit (.int .i64 x)) y3_L2)), (4, .own (y4_L1.map (eOw (eI .i64)))), (5, .lit (.int .i64 y12_L1)), (7, .lit (.int .i64 y7_L2)), (10, .sl (x0.map eS)), (11, .lit (.int .i64 ((x0.length : Int)))), (12, .lit (.int .i64 y12_L1))] (Lv env 57 Tryd.f57 1 res φ)
theorem L1_step (x0 : List ByteArray) (y3_L1 : List (ByteArray × Int)) (y4_L1 : List (List Int)) (y12_L1 : Int) (φ : List (List Int) → Prop) (h :
    (if y12_L1 < (x0.length : Int) then
      ∃ a1, lget x0 y12_L1 = some a1 ∧
      (if (mhas a1 y3_L1) = true then
        partition_groups_string.L2 x0 y3_L1 y4_L1 y12_L1 ((mgetD a1 y3_L1 0)) φ
      else
        (y4_L1.length + 1) * 24 ≤ 140737488355328 ∧
        partition_groups_string.L2 x0 ((mset a1 (y4_L1.length : Int) y3_L1)) ((y4_L1 ++ [[]])) y12_L1 ((y4_L1.length : Int)) φ)
    else
      ∃ r4 : (List (List Int) × Bool), slices_DeleteFunc_ssint_sint_partition_groups_string_1.C y4_L1 r4 ∧
      φ r4.1)) : L1 x0 y3_L1 y4_L1 y12_L1 φ :=
 mIn <|
 mAsk 2 h dT dF (fun h =>
 mIx 5 eS h fun a1 h2 h =>
 mVl 7 (val_lookup_t kb_str (fun _ => by kernel_rfl) (ek := Value.string) (ev := (fun (x : Int) => D.lit (.int .i64 x))) (t := 116) (x := (.tmp 18)) (kx := (.tmp 19)) (s := 3) (ps := []) (l := y3_L1) (kd := .lit (.string a1)) (kv := a1) (kt := 9) (vt := 3) (v0 := 0) (by kernel_rfl) (by kernel_rfl) (by kernel_rfl) (by kernel_rfl) (by kernel_rfl) (by kernel_rfl) (by kernel_rfl) (by kernel_rfl)) <|
 mAsk 7 h id fls (fun h =>
 mFin 4 h) fun h =>
 mLen 5 (eOw (eI .i64)) y4_L1 <|
 mOp 6 (op_mapUpdate kb_str (fun _ => by kernel_rfl) (ek := Value.string) (ev := (fun (x : Int) => D.lit (.int .i64 x))) (t := 116) (mx := (.tmp 27)) (kx := (.tmp 28)) (vx := (.tmp 29)) (s := 3) (ps := []) (l := y3_L1) (kd := .lit (.string a1)) (kv := a1) (kt := 9) (vt := 3) (v := (y4_L1.length : Int)) (d := .lit (.int .i64 ((y4_L1.length : Int)))) (by kernel_rfl) (by kernel_rfl) (by kernel_rfl) (by kernel_rfl) (by kernel_rfl) (by kernel_rfl) (by kernel_rfl) (by kernel_rfl) (by kernel_rfl) (setG_eq (by kernel_rfl))) <|
 mApp 4 (eOw (eI .i64)) y4_L1 ([[]]) h fun h =>
 mFin 2 h) fun h =>
 mXit 2 [(4, .own (y4_L1.map (eSl (eI .i64))))] (trim_chill (F0 := [(4, .own (y4_L1.map (eOw (eI .i64))))]) (l := y4_L1) (e := (eI .i64)) (e' := (eI .i64)) (s := 4) (by kernel_rfl) (by kernel_rfl) (by kernel_rfl) (fun _ => rfl) (by kernel_rfl) (by kernel_rfl)) <|
 mCalE 2 h (fun _ h => h) (fun r4 => cold_sown (l := r4.1) (e := (eSl (eI .i64))) rfl (fun _ => rfl)) (hf := (fun _ => clF_both)) fun r4 _ h =>
 mRet 2 h
theorem L2_step (x0 : List ByteArray) (y3_L2 : List (ByteArray × Int)) (y4_L1 : List (List Int)) (y12_L1 : Int) (y7_L2 : Int) (φ : List (List Int) → Prop) (h :
    ∃ a5, lget y4_L1 y7_L2 = some a5 ∧
    (a5.length + 1) * 8 ≤ 140737488355328 ∧
    partition_groups_string.L1 x0 y3_L2 ((lset y4_L1 y7_L2 (a5 ++ [y12_L1]))) ((IntKind.wrap .i64 (y12_L1 + 1))) φ) : L2 x0 y3_L2 y4_L1 y12_L1 y7_L2 φ :=
 mIn <|
 mIy 5 (eOw (eI .i64)) h fun a5 h6 h =>
 mLd 0 (eOw (eI .i64)) h6 <|
 h.elim fun h7 h =>
 mOp 2 (app2 (x := (.tmp 38)) (y := (.tmp 40)) (t := 38) (u := 38) (et := 3) (z := .lit (.int .i64 0)) (k := 1) (c := 8) (e := (eI .i64)) (l := a5) (m := [y12_L1]) (by kernel_rfl) (by kernel_rfl) (by kernel_rfl) (by kernel_rfl) (by kernel_rfl) (take_el (s := 4) (ps := []) (n := (y7_L2.toNat)) (c := 0) (e := (eOw (eI .i64))) (l := y4_L1) (a := a5) (by kernel_rfl) (by kernel_rfl) (lget_some h6).2 (by kernel_rfl) (by kernel_rfl) (setG_eq (by kernel_rfl))) (by kernel_rfl) (by kernel_rfl) (by kernel_rfl) (by kernel_rfl) (by kernel_rfl) (fun _ => rfl) h7) <|
 mVl 0 (val_idx_hole (s := 4) (ps := []) (cs := [.undef]) (t := 29) (x := (.tmp 33)) (ix := (.tmp 34)) (et := 38) (k := 1) (e := (eOw (eI .i64))) (l := y4_L1) (i := y7_L2) (q := .i64) (a := a5) (by kernel_rfl) (by kernel_rfl) (by kernel_rfl) (by kernel_rfl) (by kernel_rfl) (by kernel_rfl) h6 (by kernel_rfl)) <|
 mOp 0 (store2 (t := 38) (x := (.tmp 42)) (y := (.tmp 41)) (s := 4) (ps := []) (n := (y7_L2.toNat)) (e := (eOw (eI .i64))) (l := y4_L1) (a := a5) (b := (a5 ++ [y12_L1])) (k := 1) (cs := [.undef]) (d := .own (((a5 ++ [y12_L1])).map (eI .i64))) (by kernel_rfl) (by kernel_rfl) (by kernel_rfl) (by kernel_rfl) (lget_some h6).2 (by kernel_rfl) (by kernel_rfl) (by kernel_rfl) (by kernel_rfl) (by kernel_rfl) (setG_eq (by kernel_rfl))) <|
 mFin 5 h
theorem enter (x0 : List ByteArray) (φ : List (List Int) → Prop) (h :
    partition_groups_string.L1 x0 ([]) ([]) 0 φ) : ∃ r, φ r ∧ C x0 r :=
 mEnt (fd := Tryd.f57) (body := B) (V := W) (res := res) <|
 mLen 12 eS x0 <|
 mFin 2 h
end partition_groups_string
end Go.Own

namespace Go.Own
theorem partition_groups_string_1.spec {c : List Int} : partition_groups_string_1.C c (decide ((c.length : Int) < 2)) := by
  obtain ⟨r, h1, h2⟩ := partition_groups_string_1.enter c (fun r => r = decide ((c.length : Int) < 2)) rfl
  rw [← h1]; exact h2
namespace slices_IndexFunc_ssint_sint_partition_groups_string_1
theorem loop {x0 : List (List Int)} {φ : Int → Prop} (hn : x0.length < Big) : ∀ (r : List (List Int)) (k : Nat), x0.drop k = r → φ (firstOut r k) → L1 x0 k φ
  | [], k, hd, h => by
    apply L1_step
    have := drop_ge hd
    rw [if_neg (by omega)]
    exact h
  | c :: r, k, hd, h => by
    apply L1_step
    have hk := drop_lt hd
    rw [if_pos (by omega)]
    refine ⟨c, lget_drop hd, _, partition_groups_string_1.spec, ?_⟩
    rw [keepC_iff]
    simp only [firstOut] at h
    split
    · rename_i h1
      have : keepC c = false := by simpa using h1
      rw [this] at h; exact h
    · rename_i h1
      have : keepC c = true := by simpa using h1
      rw [this] at h
      rw [wrap_succ (by unfold Big at hn; omega)]
      exact loop hn r (k + 1) (drop_next hd) h
theorem spec {x0 : List (List Int)} (hn : x0.length < Big) : C x0 (firstOut x0 0) := by
  obtain ⟨r, h1, h2⟩ := enter x0 (fun r => r = firstOut x0 0) (loop hn x0 0 rfl rfl)
  rw [← h1]; exact h2
end slices_IndexFunc_ssint_sint_partition_groups_string_1
namespace slices_DeleteFunc_ssint_sint_partition_groups_string_1
theorem loop {x0 : List (List Int)} {φ : List (List Int) × Bool → Prop} (hn : x0.length < Big) (hφ : ∀ b, φ (x0.filter keepC, b)) : ∀ (r : List (List Int)) (k j : Nat) (l : List (List Int)), x0.drop k = r → l.length = x0.length → l.drop k = x0.drop k → l.take j = (x0.take k).filter keepC → j ≤ k → k ≤ x0.length → L1 l j k φ
  | [], k, j, l, hd, hl, h1, h2, h3, h4 => by
    apply L1_step
    have hk := drop_ge hd
    rw [if_neg (by omega)]
    refine ⟨by omega, ⟨by omega, by omega⟩, by omega, by omega, by omega, by omega, ⟨by omega, by omega, by omega⟩, ?_⟩
    rw [Int.toNat_natCast, h2, List.take_of_length_le hk]
    exact hφ _
  | c :: r, k, j, l, hd, hl, h1, h2, h3, h4 => by
    apply L1_step
    have hk := drop_lt hd
    rw [if_pos (by omega)]
    have hlk : l.drop k = c :: r := by rw [h1, hd]
    refine ⟨c, lget_drop hlk, _, partition_groups_string_1.spec, ?_⟩
    rw [keepC_iff]
    have htk : x0.take (k + 1) = x0.take k ++ [c] := by rw [List.take_add_one, drop_get hd]; rfl
    split
    · rename_i hc
      have hc : keepC c = false := by simpa using hc
      apply L2_step
      rw [wrap_succ (by unfold Big at hn; omega)]
      refine loop hn hφ r (k + 1) j l (drop_next hd) hl ?_ ?_ (by omega) (by omega)
      · rw [drop_next hlk, drop_next hd]
      · rw [htk, List.filter_append, h2]; simp [hc]
    · rename_i hc
      have hc : keepC c = true := by simpa using hc
      obtain ⟨a, ha⟩ := lget_lt (l := l) (i := (j : Int)) (by omega) (by omega)
      refine ⟨a, ha, ?_⟩
      apply L2_step
      rw [wrap_succ (by unfold Big at hn; omega), wrap_succ (by unfold Big at hn; omega)]
      have hs : lset l (j : Int) c = l.set j c := by simp [lset]
      rw [hs]
      refine loop hn hφ r (k + 1) (j + 1) (l.set j c) (drop_next hd) (by simp [hl]) ?_ ?_ (by omega) (by omega)
      · rw [List.drop_set_of_lt (by omega), drop_next hlk, drop_next hd]
      · rw [htk, List.filter_append, ← h2, List.take_add_one]
        have e1 : (l.set j c)[j]? = some c := by rw [List.getElem?_set_self (by omega)]
        rw [e1, List.take_set_of_le (by omega)]
        simp [hc]
theorem spec {x0 : List (List Int)} (hn : x0.length < Big) : ∃ b, C x0 (x0.filter keepC, b) := by
  obtain ⟨r, h1, h2⟩ := enter x0 (fun r => r.1 = x0.filter keepC) (by
    refine ⟨_, slices_IndexFunc_ssint_sint_partition_groups_string_1.spec hn, ?_⟩
    rcases firstOut_spec (l := x0) (k := 0) with ⟨h1, h2⟩ | ⟨n, h1, h2, h3, c, h4, h5⟩
    · rw [if_pos h1]
      exact (List.filter_eq_self.2 h2).symm
    · rw [if_neg (by omega), h1, Nat.zero_add, wrap_succ (by unfold Big at hn; omega)]
      refine loop (φ := fun r => r.1 = x0.filter keepC) hn (fun b => rfl) _ (n + 1) n x0 rfl rfl rfl ?_ (by omega) (by omega)
      have htk : x0.take (n + 1) = x0.take n ++ [c] := by rw [List.take_add_one, h4]; rfl
      rw [htk, List.filter_append, List.filter_eq_self.2 h3]
      simp [h5])
  obtain ⟨l, b⟩ := r
  simp only at h1
  subst h1
  exact ⟨b, h2⟩
end slices_DeleteFunc_ssint_sint_partition_groups_string_1
namespace partition_groups_string
theorem loop {x0 : List ByteArray} {φ : List (List Int) → Prop} (hn : x0.length ≤ 10000) (hφ : φ (grpF x0)) : ∀ (r : List ByteArray) (k : Nat) (m : List (ByteArray × Int)), x0.drop k = r → ixOf m (fsts (x0.take k)) → L1 x0 m ((fsts (x0.take k)).map (cls (x0.take k))) k φ
  | [], k, m, hd, hm => by
    apply L1_step
    have hk := drop_ge hd
    rw [if_neg (by omega), List.take_of_length_le hk]
    have hlen : ((fsts x0).map (cls x0)).length < Big := by
      rw [List.length_map]
      have : ∀ l : List ByteArray, (fsts l).length ≤ l.length := by
        intro l
        refine list_snoc_ind (p := fun l => (fsts l).length ≤ l.length) (by simp [fsts]) (fun l b ih => ?_) l
        rw [fsts_snoc]
        split
        · simp; omega
        · simp; omega
      have := this x0
      unfold Big; omega
    obtain ⟨b, hb⟩ := slices_DeleteFunc_ssint_sint_partition_groups_string_1.spec hlen
    exact ⟨_, hb, hφ⟩
  | a :: r, k, m, hd, hm => by
    apply L1_step
    have hk := drop_lt hd
    rw [if_pos (by omega)]
    refine ⟨a, lget_drop hd, ?_⟩
    have htk : x0.take (k + 1) = x0.take k ++ [a] := by rw [List.take_add_one, drop_get hd]; rfl
    have hlen : (x0.take k).length = k := by rw [List.length_take]; omega
    have hle : (fsts (x0.take k)).length ≤ 10000 := by
      have : ∀ l : List ByteArray, (fsts l).length ≤ l.length := by
        intro l
        refine list_snoc_ind (p := fun l => (fsts l).length ≤ l.length) (by simp [fsts]) (fun l b ih => ?_) l
        rw [fsts_snoc]
        split
        · simp; omega
        · simp; omega
      have := this (x0.take k)
      omega
    have hcl : ∀ b, (cls (x0.take k) b).length ≤ 10000 := fun b => by
      unfold cls
      rw [List.length_map]
      exact Nat.le_trans (List.length_filter_le _ _) (by simp; omega)
    by_cases ha : a ∈ fsts (x0.take k)
    · have hg : mget a m = some ((ixn (fsts (x0.take k)) a : Nat) : Int) := by rw [hm a, if_pos ha]
      rw [if_pos (by simp [mhas, hg])]
      apply L2_step
      have hi : ixn (fsts (x0.take k)) a < (fsts (x0.take k)).length := ixn_lt ha
      have hgd : mgetD a m 0 = ((ixn (fsts (x0.take k)) a : Nat) : Int) := by simp [mgetD, hg]
      rw [hgd]
      refine ⟨cls (x0.take k) a, ?_, by have := hcl a; omega, ?_⟩
      · rw [lget_nat, List.getElem?_map, ixn_get ha]; rfl
      · rw [wrap_succ (by omega)]
        have ih := loop hn hφ r (k + 1) m (drop_next hd) (by rw [htk, fsts_snoc, if_pos ha]; exact hm)
        rw [htk, fsts_snoc, if_pos ha] at ih
        have e : (fsts (x0.take k)).map (cls (x0.take k ++ [a])) = lset ((fsts (x0.take k)).map (cls (x0.take k))) ((ixn (fsts (x0.take k)) a : Nat) : Int) (cls (x0.take k) a ++ [(k : Int)]) := by
          unfold lset
          rw [Int.toNat_natCast]
          apply List.ext_getElem?
          intro q
          rw [List.getElem?_map, List.getElem?_set, List.getElem?_map, List.length_map]
          by_cases hq : ixn (fsts (x0.take k)) a = q
          · subst hq
            rw [if_pos rfl, if_pos hi, ixn_get ha]
            simp [cls_snoc, hlen]
          · rw [if_neg hq]
            cases hv : (fsts (x0.take k))[q]? with
            | none => rfl
            | some b =>
              simp only [Option.map_some, Option.some.injEq]
              rw [cls_snoc, if_neg]
              rintro rfl
              exact hq (ixn_uniq fsts_nodup hv)
        rw [e] at ih
        exact ih
    · have hg : mget a m = none := by rw [hm a, if_neg ha]
      rw [if_neg (by simp [mhas, hg])]
      have hal : a ∉ x0.take k := fun h => ha (mem_fsts.2 h)
      refine ⟨by rw [List.length_map]; omega, ?_⟩
      apply L2_step
      refine ⟨[], ?_, by simp, ?_⟩
      · rw [lget_nat, List.getElem?_append_right (Nat.le_refl _)]; simp
      · rw [wrap_succ (by omega), List.length_map]
        have ih := loop hn hφ r (k + 1) (mset a ((fsts (x0.take k)).length : Int) m) (drop_next hd) (by
          rw [htk, fsts_snoc, if_neg ha]
          intro b
          rw [mget_mset]
          by_cases hab : a = b
          · subst hab
            rw [if_pos rfl, if_pos (by simp), idx_snoc ha]
          · rw [if_neg hab, hm b]
            have : b ∈ fsts (x0.take k) ++ [a] ↔ b ∈ fsts (x0.take k) := by simp [Ne.symm hab]
            by_cases hb : b ∈ fsts (x0.take k)
            · rw [if_pos hb, if_pos (this.2 hb), ixn_in hb]
            · rw [if_neg hb, if_neg (fun h => hb (this.1 h))])
        rw [htk, fsts_snoc, if_neg ha] at ih
        have e : (fsts (x0.take k) ++ [a]).map (cls (x0.take k ++ [a])) = lset ((fsts (x0.take k)).map (cls (x0.take k)) ++ [[]]) ((fsts (x0.take k)).length : Int) ([] ++ [(k : Int)]) := by
          unfold lset
          rw [Int.toNat_natCast, List.set_append_right _ _ (by simp), List.length_map, Nat.sub_self, List.set_cons_zero, List.map_append]
          congr 1
          · refine List.map_congr_left fun b hb => ?_
            rw [cls_snoc, if_neg]
            rintro rfl; exact ha hb
          · simp [cls_snoc, cls_out hal, hlen]
        rw [e] at ih
        exact ih
theorem spec {x0 : List ByteArray} (hn : x0.length ≤ 10000) : C x0 (grpF x0) := by
  obtain ⟨r, h1, h2⟩ := enter x0 (fun r => r = grpF x0) (by
    have := loop (φ := fun r => r = grpF x0) hn rfl x0 0 [] rfl (by intro a; simp [mget, fsts])
    simpa [fsts] using this)
  rw [← h1]; exact h2
end partition_groups_string
end Go.Own

namespace Go.Own
section
variable {α β : Type} [DecidableEq α] [DecidableEq β]
structure Alike (l : List α) (m : List β) : Prop where
  len : l.length = m.length
  iff : ∀ i j : Nat, i < l.length → j < l.length → (l[i]? = l[j]? ↔ m[i]? = m[j]?)
theorem cls_alike {l : List α} {m : List β} (h : Alike l m) {k : Nat} {a : α} {b : β} (ha : l[k]? = some a) (hb : m[k]? = some b) : cls l a = cls m b := by
  unfold cls
  rw [h.len]
  congr 1
  refine List.filter_congr fun i hi => ?_
  have hk := (List.getElem?_eq_some_iff.1 ha).1
  have := h.iff i k (by rw [h.len]; simpa using hi) hk
  rw [ha, hb] at this
  rw [decide_eq_decide]
  exact this
theorem mem_take_iff {l : List α} {k : Nat} {a : α} : a ∈ l.take k ↔ ∃ j, j < k ∧ l[j]? = some a := by
  rw [List.mem_iff_getElem?]
  constructor
  · rintro ⟨j, hj⟩
    rw [List.getElem?_take] at hj
    split at hj
    · rename_i h; exact ⟨j, h, hj⟩
    · cases hj
  · rintro ⟨j, h1, h2⟩
    exact ⟨j, by rw [List.getElem?_take_of_lt h1]; exact h2⟩
theorem take_succ_get {l : List α} {k : Nat} {a : α} (h : l[k]? = some a) : l.take (k + 1) = l.take k ++ [a] := by rw [List.take_add_one, h]; rfl
theorem map_alike {l : List α} {m : List β} (h : Alike l m) : ∀ k, k ≤ l.length → (fsts (l.take k)).map (cls l) = (fsts (m.take k)).map (cls m)
  | 0, _ => by simp [fsts]
  | k + 1, hk => by
    have ih := map_alike h k (by omega)
    have hl := List.getElem?_eq_getElem (l := l) (i := k) (by omega)
    have hm := List.getElem?_eq_getElem (l := m) (i := k) (by rw [← h.len]; omega)
    rw [take_succ_get hl, take_succ_get hm, fsts_snoc, fsts_snoc]
    have e : l[k] ∈ fsts (l.take k) ↔ m[k]'(by rw [← h.len]; omega) ∈ fsts (m.take k) := by
      rw [mem_fsts, mem_fsts, mem_take_iff, mem_take_iff]
      constructor
      · rintro ⟨j, h1, h2⟩
        refine ⟨j, h1, ?_⟩
        rw [← hm, ← h.iff j k (by omega) (by omega), h2, hl]
      · rintro ⟨j, h1, h2⟩
        refine ⟨j, h1, ?_⟩
        rw [← hl, h.iff j k (by omega) (by omega), h2, hm]
    by_cases hin : l[k] ∈ fsts (l.take k)
    · rw [if_pos hin, if_pos (e.1 hin)]; exact ih
    · rw [if_neg hin, if_neg (fun hh => hin (e.2 hh)), List.map_append, List.map_append, ih]
      simp only [List.map_cons, List.map_nil, cls_alike h hl hm]
theorem grpF_alike {l : List α} {m : List β} (h : Alike l m) : grpF l = grpF m := by
  have := map_alike h l.length (Nat.le_refl _)
  rw [List.take_length, h.len, List.take_length] at this
  unfold grpF
  rw [this]
theorem cls_sorted {l : List α} {a : α} : (cls l a).Pairwise (· < ·) := by
  unfold cls
  rw [List.pairwise_map]
  refine List.Pairwise.imp ?_ (List.pairwise_lt_range.filter _)
  intro i j h; omega
theorem head_le {c : List Int} (h : c.Pairwise (· < ·)) {i : Int} (hi : i ∈ c) : c.headD 0 ≤ i := by
  match c, h, hi with
  | a :: t, h, hi =>
    simp only [List.headD_cons]
    rcases List.mem_cons.1 hi with rfl | hi
    · omega
    · have := (List.pairwise_cons.1 h).1 i hi; omega
theorem headD_in {c : List Int} (h : c ≠ []) : c.headD 0 ∈ c := by
  match c, h with
  | a :: t, _ => simp
theorem cls_ne {l : List α} {a : α} (h : a ∈ l) : cls l a ≠ [] := by
  obtain ⟨k, hk⟩ := List.mem_iff_getElem?.1 h
  intro hn
  have : ((k : Nat) : Int) ∈ cls l a := mem_cls.2 (by rw [lget_nat]; exact hk)
  rw [hn] at this; cases this
theorem grp_pairs {l : List α} : ∀ k, k ≤ l.length → ((fsts (l.take k)).map (cls l)).Pairwise (fun c d => c.headD 0 < d.headD 0 ∧ ∀ i ∈ c, i ∉ d) ∧ ∀ a ∈ fsts (l.take k), (cls l a).headD 0 < (k : Int)
  | 0, _ => by simp [fsts]
  | k + 1, hk => by
    obtain ⟨i1, i2⟩ := grp_pairs (l := l) k (by omega)
    obtain ⟨x, hl⟩ : ∃ x, l[k]? = some x := ⟨_, List.getElem?_eq_getElem (by omega)⟩
    rw [take_succ_get hl, fsts_snoc]
    split
    · exact ⟨i1, fun a ha => by have := i2 a ha; omega⟩
    · rename_i hin
      have hne := cls_ne (List.mem_of_getElem? hl)
      have hkm : ((k : Nat) : Int) ∈ cls l x := mem_cls.2 (by rw [lget_nat]; exact hl)
      have hhead : (cls l x).headD 0 = (k : Int) := by
        have h1 := head_le cls_sorted hkm
        have h2 := mem_cls.1 (headD_in hne)
        obtain ⟨h3, h4⟩ := lget_some h2
        rcases Int.lt_or_le ((cls l x).headD 0) (k : Int) with h5 | h5
        · exfalso
          apply hin
          rw [mem_fsts, mem_take_iff]
          exact ⟨_, by omega, h4⟩
        · omega
      refine ⟨?_, ?_⟩
      · rw [List.map_append, List.pairwise_append]
        refine ⟨i1, by simp, fun c hc d hd => ?_⟩
        simp only [List.map_cons, List.map_nil, List.mem_singleton] at hd
        subst hd
        obtain ⟨b, hb, rfl⟩ := List.mem_map.1 hc
        refine ⟨by rw [hhead]; exact i2 b hb, fun i hi hi2 => ?_⟩
        have e := (mem_cls.1 hi).symm.trans (mem_cls.1 hi2)
        rw [Option.some.inj e] at hb
        exact hin hb
      · intro a ha
        rcases List.mem_append.1 ha with ha | ha
        · have := i2 a ha; omega
        · simp only [List.mem_singleton] at ha
          subst ha
          rw [hhead]; omega
def part (l : List α) : api_Partition := ⟨l.length, grpF l⟩
theorem mem_grpF {l : List α} {c : List Int} : c ∈ grpF l ↔ ∃ a ∈ l, c = cls l a ∧ 2 ≤ c.length := by
  unfold grpF
  simp only [List.mem_filter, List.mem_map, decide_eq_true_eq]
  constructor
  · rintro ⟨⟨a, h1, rfl⟩, h2⟩; exact ⟨a, mem_fsts.1 h1, rfl, h2⟩
  · rintro ⟨a, h1, rfl, h2⟩; exact ⟨⟨a, mem_fsts.2 h1, rfl⟩, h2⟩
theorem part_CP {l : List α} : CP (l.length : Int) (grpF l) := by
  have hp := (grp_pairs (l := l) l.length (Nat.le_refl _)).1
  rw [List.take_length] at hp
  have hp' : (grpF l).Pairwise (fun c d => c.headD 0 < d.headD 0 ∧ ∀ i ∈ c, i ∉ d) := hp.filter _
  refine ⟨fun c hc => ?_, fun c hc => ?_, fun c hc i hi => ?_, hp'.imp fun h => h.1, hp'.imp fun h => h.2⟩
  · obtain ⟨a, _, _, h⟩ := mem_grpF.1 hc; exact h
  · obtain ⟨a, _, rfl, _⟩ := mem_grpF.1 hc; exact cls_sorted
  · obtain ⟨a, _, rfl, _⟩ := mem_grpF.1 hc
    obtain ⟨h1, h2⟩ := lget_some (mem_cls.1 hi)
    have := (List.getElem?_eq_some_iff.1 h2).1
    omega
theorem part_valid {l : List α} (h : l.length ≤ 1000) : validF (part l) = true := valid_iff.2 ⟨by simp [part], by simp only [part]; omega, part_CP⟩
theorem part_same {l : List α} {i j : Int} (hi : 0 ≤ i ∧ i < l.length) (hj : 0 ≤ j ∧ j < l.length) : Same (part l) i j ↔ lget l i = lget l j := by
  constructor
  · rintro (rfl | ⟨c, hc, h1, h2⟩)
    · rfl
    · obtain ⟨a, _, rfl, _⟩ := mem_grpF.1 hc
      rw [mem_cls.1 h1, mem_cls.1 h2]
  · intro h
    by_cases hij : i = j
    · exact .inl hij
    · obtain ⟨a, ha⟩ := lget_lt (l := l) hi.1 hi.2
      have h1 : i ∈ cls l a := mem_cls.2 ha
      have h2 : j ∈ cls l a := mem_cls.2 (h ▸ ha)
      refine .inr ⟨cls l a, mem_grpF.2 ⟨a, ?_, rfl, ?_⟩, h1, h2⟩
      · exact List.mem_of_getElem? (lget_some ha).2
      · match hc : cls l a, h1, h2 with
        | [x], h1, h2 => simp at h1 h2; exact absurd (h1.trans h2.symm) hij
        | _ :: _ :: _, _, _ => simp
theorem part_small {l : List α} (h : l.length ≤ 1000) : Small (part l) := by
  obtain ⟨h1, h2⟩ := sizes (part_valid h)
  exact ⟨by unfold Big; omega, fun c hc => by have := h2 c hc; unfold Big; omega⟩
theorem prod_part {l : List α} {m : List β} (hl : l.length ≤ 1000) (hm : m.length = l.length) : prodF (part l) (part m) = (part (l.zip m), 0) := by
  have hb : bothF (part l) (part m) = 0 := by
    simp [bothF, part_valid hl, part_valid (l := m) (by omega)]
    simp [part, hm]
  unfold prodF
  rw [if_pos hb]
  have ha : Alike (zipL (labN (part l)) (labN (part m))) (l.zip m) := by
    have n1 : (labN (part l)).length = l.length := by rw [labN_len]; simp [part]
    have n2 : (labN (part m)).length = l.length := by rw [labN_len]; simp [part, hm]
    refine ⟨by simp [zipL, n1, n2, hm], fun i j hi hj => ?_⟩
    have hi : i < l.length := by simp only [zipL, List.length_zip, n1, n2] at hi; omega
    have hj : j < l.length := by simp only [zipL, List.length_zip, n1, n2] at hj; omega
    have key : ∀ {γ δ : Type} {u : List γ} {v : List δ}, u.length = l.length → v.length = l.length → ((u.zip v)[i]? = (u.zip v)[j]? ↔ u[i]? = u[j]? ∧ v[i]? = v[j]?) := by
      intro γ δ u v hu hv
      rw [List.getElem?_eq_getElem (by simp; omega), List.getElem?_eq_getElem (by simp; omega), List.getElem?_eq_getElem (l := u) (by omega), List.getElem?_eq_getElem (l := u) (i := j) (by omega), List.getElem?_eq_getElem (l := v) (by omega), List.getElem?_eq_getElem (l := v) (i := j) (by omega)]
      simp
    unfold zipL
    rw [key n1 n2, key rfl hm]
    have s1 := labN_same (part_valid hl) (i := (i : Int)) (j := (j : Int)) (by simp [part]; omega) (by simp [part]; omega)
    have s2 := labN_same (part_valid (l := m) (by omega)) (i := (i : Int)) (j := (j : Int)) (by simp [part]; omega) (by simp [part]; omega)
    rw [part_same (by omega) (by omega)] at s1
    rw [part_same (by omega) (by omega)] at s2
    simp only [lget_nat] at s1 s2
    rw [s1, s2]
  rw [grpF_alike ha]
  simp [part, hm]
end
end Go.Own

namespace Go.Own
open Go.Proofs D
set_option maxRecDepth 100000
set_option maxHeartbeats 4000000
namespace drossref02_Ints
noncomputable def B : Code := (Tryd.f38.body).getD .skip
def W : List Nat := [0, 1, 4, 5, 10, 14, 25]
def res (r : Bool) : D × List D := (.lit (.bool r), [])
def C (x0 : List Int) (x1 : List Int) (r : Bool) : Prop := Ret env 38 [.sl (x0.map (eI .i64)), .sl (x1.map (eI .i64))] (res r).1 (res r).2
def L1 (x0 : List Int) (x1 : List Int) (y5_L1 : Int) (φ : Bool → Prop) : Prop := Pt env 38 W B [1, 1, 0, 1, 0] [(0, .sl (x0.map (eI .i64))), (1, .sl (x1.map (eI .i64))), (5, .lit (.int .i64 y5_L1))] (Lv env 38 Tryd.f38 2 res φ)
theorem L1_step (x0 : List Int) (x1 : List Int) (y5_L1 : Int) (φ : Bool → Prop) (h :
    (if y5_L1 < (x0.length : Int) then
      ∃ a1, lget x0 y5_L1 = some a1 ∧
      ∃ a3, lget x1 y5_L1 = some a3 ∧
      (if a1 = a3 then
        drossref02_Ints.L1 x0 x1 ((IntKind.wrap .i64 (y5_L1 + 1))) φ
      else
        φ false)
    else
      φ true)) : L1 x0 x1 y5_L1 φ :=
 mIn <|
 mLen 4 (eI .i64) x0 <|
 mAsk 0 h dT dF (fun h =>
 mIx 6 (eI .i64) h fun a1 h2 h =>
 mIx 3 (eI .i64) h fun a3 h4 h =>
 mAskN 1 h bne_t bne_f (fun h =>
 mRet 5 h) fun h =>
 mFin 8 h) fun h =>
 mRet 6 h
theorem enter (x0 : List Int) (x1 : List Int) (φ : Bool → Prop) (h :
    (if (x0.length : Int) = (x1.length : Int) then
      drossref02_Ints.L1 x0 x1 0 φ
    else
      φ false)) : ∃ r, φ r ∧ C x0 x1 r :=
 mEnt (fd := Tryd.f38) (body := B) (V := W) (res := res) <|
 mLen 5 (eI .i64) x0 <|
 mLen 1 (eI .i64) x1 <|
 mAskN 0 h bne_t bne_f (fun h =>
 mRet 5 h) fun h =>
 mFin 6 h
end drossref02_Ints
end Go.Own

namespace Go.Own
open Go.Proofs D
set_option maxRecDepth 100000
set_option maxHeartbeats 4000000
namespace drossref08_Same
noncomputable def B : Code := (Tryd.f14.body).getD .skip
def W : List Nat := [0, 1, 2, 3, 4, 5, 19, 24, 38]
def res (r : Bool) : D × List D := (.lit (.bool r), [])
def C (x0 : api_Partition) (x1 : api_Partition) (r : Bool) : Prop := Ret env 14 [.agg [.lit (.int .i64 x0.Rows), .sl (x0.Classes.map (eSl (eI .i64)))], .agg [.lit (.int .i64 x1.Rows), .sl (x1.Classes.map (eSl (eI .i64)))]] (res r).1 (res r).2
def L1 (x0 : api_Partition) (x1 : api_Partition) (y5_L1 : Int) (φ : Bool → Prop) : Prop := Pt env 14 W B [1, 1, 0, 1, 0] [(0, .agg [.lit (.int .i64 x0.Rows), .sl (x0.Classes.map (eSl (eI .i64)))]), (1, .agg [.lit (.int .i64 x1.Rows), .sl (x1.Classes.map (eSl (eI .i64)))]), (2, .box [.lit (.int .i64 x0.Rows), .sl (x0.Classes.map (eSl (eI .i64)))]), (3, .box [.lit (.int .i64 x1.Rows), .sl (x1.Classes.map (eSl (eI .i64)))]), (5, .lit (.int .i64 y5_L1))] (Lv env 14 Tryd.f14 2 res φ)
theorem L1_step (x0 : api_Partition) (x1 : api_Partition) (y5_L1 : Int) (φ : Bool → Prop) (h :
    (if y5_L1 < (x0.Classes.length : Int) then
      ∃ a1, lget x0.Classes y5_L1 = some a1 ∧
      ∃ a3, lget x1.Classes y5_L1 = some a3 ∧
      ∃ r5 : Bool, drossref02_Ints.C a1 a3 r5 ∧
      (if r5 = true then
        drossref08_Same.L1 x0 x1 ((IntKind.wrap .i64 (y5_L1 + 1))) φ
      else
        φ false)
    else
      φ true)) : L1 x0 x1 y5_L1 φ :=
 mIn <|
 mLen 5 (eSl (eI .i64)) x0.Classes <|
 mAsk 0 h dT dF (fun h =>
 mIx 7 (eSl (eI .i64)) h fun a1 h2 h =>
 mIx 4 (eSl (eI .i64)) h fun a3 h4 h =>
 mCalB 1 h (fun _ h => h) (fun _ h =>
 mFin 9 h) fun _ h =>
 mRet 6 h) fun h =>
 mRet 6 h
theorem enter (x0 : api_Partition) (x1 : api_Partition) (φ : Bool → Prop) (h :
    (if x0.Rows = x1.Rows then
      (if (x0.Classes.length : Int) = (x1.Classes.length : Int) then
        drossref08_Same.L1 x0 x1 0 φ
      else
        φ false)
    else
      φ false)) : ∃ r, φ r ∧ C x0 x1 r :=
 mEnt (fd := Tryd.f14) (body := B) (V := W) (res := res) <|
 mAskN 10 h bne_t bne_f (fun h =>
 mRet 14 h) fun h =>
 mLen 3 (eSl (eI .i64)) x0.Classes <|
 mLen 2 (eSl (eI .i64)) x1.Classes <|
 mAskN 0 h bne_t bne_f (fun h =>
 mRet 6 h) fun h =>
 mFin 7 h
end drossref08_Same
end Go.Own

namespace Go.Own
namespace drossref02_Ints
theorem loop {x0 x1 : List Int} {φ : Bool → Prop} (hn : x0.length < Big) (hl : x0.length = x1.length) : ∀ (r s : List Int) (k : Nat), x0.drop k = r → x1.drop k = s → φ (decide (r = s)) → L1 x0 x1 k φ
  | [], s, k, hd, he, h => by
    apply L1_step
    have := drop_ge hd
    rw [if_neg (by omega)]
    have : s = [] := by rw [← he]; exact List.drop_eq_nil_of_le (by omega)
    simpa [this] using h
  | a :: r, s, k, hd, he, h => by
    apply L1_step
    have hk := drop_lt hd
    rw [if_pos (by omega)]
    match s, he, h with
    | [], he, h => have := drop_ge he; omega
    | b :: s, he, h =>
      refine ⟨a, lget_drop hd, b, lget_drop he, ?_⟩
      split
      · rename_i hab
        rw [wrap_succ (by unfold Big at hn; omega)]
        refine loop hn hl r s (k + 1) (drop_next hd) (drop_next he) ?_
        simpa [hab] using h
      · rename_i hab
        simpa [hab] using h
theorem spec {x0 x1 : List Int} (hn : x0.length < Big) : C x0 x1 (decide (x0 = x1)) := by
  obtain ⟨r, h1, h2⟩ := enter x0 x1 (fun r => r = decide (x0 = x1)) (by
    split
    · rename_i h
      exact loop (φ := fun r => r = decide (x0 = x1)) hn (by omega) x0 x1 0 rfl rfl rfl
    · rename_i h
      have : x0 ≠ x1 := fun e => h (by rw [e])
      simp [this])
  rw [← h1]; exact h2
end drossref02_Ints
namespace drossref08_Same
theorem loop {x0 x1 : api_Partition} {φ : Bool → Prop} (hn : Small x0) (hl : x0.Classes.length = x1.Classes.length) : ∀ (r s : List (List Int)) (k : Nat), x0.Classes.drop k = r → x1.Classes.drop k = s → φ (decide (r = s)) → L1 x0 x1 k φ
  | [], s, k, hd, he, h => by
    apply L1_step
    have := drop_ge hd
    rw [if_neg (by omega)]
    have : s = [] := by rw [← he]; exact List.drop_eq_nil_of_le (by omega)
    simpa [this] using h
  | a :: r, s, k, hd, he, h => by
    apply L1_step
    have hk := drop_lt hd
    rw [if_pos (by omega)]
    match s, he, h with
    | [], he, h => have := drop_ge he; omega
    | b :: s, he, h =>
      refine ⟨a, lget_drop hd, b, lget_drop he, _, drossref02_Ints.spec (hn.2 a (List.mem_of_getElem? (drop_get hd))), ?_⟩
      split
      · rename_i hab
        have hab : a = b := by simpa using hab
        rw [wrap_succ (by have := hn.1; unfold Big at this; omega)]
        refine loop hn hl r s (k + 1) (drop_next hd) (drop_next he) ?_
        simpa [hab] using h
      · rename_i hab
        have hab : a ≠ b := by simpa using hab
        simpa [hab] using h
theorem spec {x0 x1 : api_Partition} (hn : Small x0) : C x0 x1 (decide (x0 = x1)) := by
  obtain ⟨r, h1, h2⟩ := enter x0 x1 (fun r => r = decide (x0 = x1)) (by
    obtain ⟨r0, c0⟩ := x0
    obtain ⟨r1, c1⟩ := x1
    simp only [api_Partition.mk.injEq]
    split
    · rename_i h
      split
      · rename_i h2
        refine loop (x0 := ⟨r0, c0⟩) (x1 := ⟨r1, c1⟩) (φ := fun r => r = decide (r0 = r1 ∧ c0 = c1)) hn (by simp only; omega) c0 c1 0 rfl rfl ?_
        simp [h]
      · rename_i h2
        have : c0 ≠ c1 := fun e => h2 (by rw [e])
        simp [this]
    · rename_i h
      simp [h])
  rw [← h1]; exact h2
end drossref08_Same
theorem zip_alike {α β : Type} [DecidableEq α] [DecidableEq β] {l : List α} {m : List β} (hl : l.length = m.length) (h : ∀ i j : Nat, i < l.length → j < l.length → (l[i]? = l[j]? ↔ m[i]? = m[j]?)) : part l = part m := by
  unfold part
  rw [grpF_alike (l := l) (m := m) ⟨hl, h⟩, hl]
theorem zip_get {γ δ : Type} {u : List γ} {v : List δ} {i j : Nat} (h : u.length = v.length) (hi : i < u.length) (hj : j < u.length) : ((u.zip v)[i]? = (u.zip v)[j]? ↔ u[i]? = u[j]? ∧ v[i]? = v[j]?) := by
  rw [List.getElem?_eq_getElem (by simp only [List.length_zip]; omega), List.getElem?_eq_getElem (by simp only [List.length_zip]; omega), List.getElem?_eq_getElem (l := u) (by omega), List.getElem?_eq_getElem (l := u) (i := j) (by omega), List.getElem?_eq_getElem (l := v) (by omega), List.getElem?_eq_getElem (l := v) (i := j) (by omega)]
  simp
end Go.Own

namespace Go.Own
section
variable {α : Type} [DecidableEq α]
def frst (z : List α) (i : Nat) : Nat := ((List.range (i + 1)).find? fun k => decide (z[k]? = z[i]?)).getD i
theorem frst_spec {z : List α} {i : Nat} : frst z i ≤ i ∧ z[frst z i]? = z[i]? ∧ ∀ k, k < frst z i → z[k]? ≠ z[i]? := by
  unfold frst
  cases h : (List.range (i + 1)).find? fun k => decide (z[k]? = z[i]?) with
  | none =>
    have := List.find?_eq_none.1 h i (by simp)
    simp at this
  | some k =>
    simp only [Option.getD_some]
    obtain ⟨h1, n, hn, h2, h3⟩ := List.find?_eq_some_iff_getElem.1 h
    simp only [List.getElem_range] at h2 h3
    subst h2
    simp only [List.length_range] at hn
    refine ⟨by omega, by simpa using h1, fun k hk => ?_⟩
    have := h3 k hk
    simpa using this
theorem frst_eq {z : List α} {i j : Nat} (h : z[i]? = z[j]?) : frst z i = frst z j := by
  obtain ⟨a1, a2, a3⟩ := frst_spec (z := z) (i := i)
  obtain ⟨b1, b2, b3⟩ := frst_spec (z := z) (i := j)
  rcases Nat.lt_trichotomy (frst z i) (frst z j) with h1 | h1 | h1
  · exact absurd (a2.trans h) (b3 _ h1)
  · exact h1
  · exact absurd (b2.trans h.symm) (a3 _ h1)
def frsts (z : List α) : List Int := (List.range z.length).map fun i => ((frst z i : Nat) : Int)
theorem frsts_alike {z : List α} : Alike (frsts z) z := by
  refine ⟨by simp [frsts], fun i j hi hj => ?_⟩
  simp only [frsts, List.length_map, List.length_range] at hi hj
  simp only [frsts, List.getElem?_map, List.getElem?_range hi, List.getElem?_range hj, Option.map_some, Option.some.injEq]
  constructor
  · intro h
    have h : frst z i = frst z j := by omega
    have a := (frst_spec (z := z) (i := i)).2.1
    have b := (frst_spec (z := z) (i := j)).2.1
    rw [← a, ← b, h]
  · intro h; rw [frst_eq h]
end
end Go.Own

namespace Go.Own
open Go.Proofs D
set_option maxRecDepth 100000
set_option maxHeartbeats 4000000
namespace partition_of
noncomputable def B : Code := (Tryd.f33.body).getD .skip
def W : List Nat := [0, 1, 2, 4, 5, 6, 7, 8, 9, 11, 12, 13, 21, 22, 23, 24, 28, 29, 30, 31]
def res (r : api_Partition) : D × List D := (.agg [.lit (.int .i64 r.Rows), .sl (r.Classes.map (eSl (eI .i64)))], [])
def C (x0 : api_Table) (x1 : Int) (r : api_Partition) : Prop := Ret env 33 [.agg [.lit (.string x0.Name), .sl (x0.Attrs.map eS), .sl (x0.Rows.map enc_api_Row)], .lit (.int .u32 x1)] (res r).1 (res r).2
def L1 (x0 : api_Table) (r1 : List Int) (y6_L1 : List ByteArray) (y23_L1 : Int) (φ : api_Partition → Prop) : Prop := Pt env 33 W B [1, 1, 1, 0, 1, 0] [(0, .agg [.lit (.string x0.Name), .sl (x0.Attrs.map eS), .sl (x0.Rows.map enc_api_Row)]), (2, .box [.lit (.string x0.Name), .sl (x0.Attrs.map eS), .sl (x0.Rows.map enc_api_Row)]), (4, .box [.lit (.int .i64 0), .own []]), (5, .own (r1.map (eI .i64))), (6, .own (y6_L1.map eS)), (21, .sl (x0.Rows.map enc_api_Row)), (22, .lit (.int .i64 ((x0.Rows.length : Int)))), (23, .lit (.int .i64 y23_L1))] (Lv env 33 Tryd.f33 2 res φ)
def L2 (x0 : api_Table) (r1 : List Int) (y6_L2 : List ByteArray) (y7_L2 : Int) (a3 : api_Row) (y9_L2 : List UInt8) (y23_L2 : Int) (y30_L2 : Int) (φ : api_Partition → Prop) : Prop := Pt env 33 W B [1, 1, 1, 0, 1, 0, 0, 1, 1, 0, 0, 1, 1, 0, 1, 0] [(0, .agg [.lit (.string x0.Name), .sl (x0.Attrs.map eS), .sl (x0.Rows.map enc_api_Row)]), (2, .box [.lit (.string x0.Name), .sl (x0.Attrs.map eS), .sl (x0.Rows.map enc_api_Row)]), (4, .box [.lit (.int .i64 0), .own []]), (5, .own (r1.map (eI .i64))), (6, .own (y6_L2.map eS)), (7, .lit (.int .i64 y7_L2)), (8, .box [.lit (.int .i64 a3.ID), .sl (a3.Values.map enc_api_Value)]), (9, .bld 90 5 y9_L2), (21, .sl (x0.Rows.map enc_api_Row)), (22, .lit (.int .i64 ((x0.Rows.length : Int)))), (23, .lit (.int .i64 y23_L2)), (28, .alias 5 []), (29, .lit (.int .i64 ((r1.length : Int)))), (30, .lit (.int .i64 y30_L2))] (Lv env 33 Tryd.f33 2 res φ)
theorem L1_step (x0 : api_Table) (r1 : List Int) (y6_L1 : List ByteArray) (y23_L1 : Int) (φ : api_Partition → Prop) (h :
    (if y23_L1 < (x0.Rows.length : Int) then
      ∃ a3, lget x0.Rows y23_L1 = some a3 ∧
      partition_of.L2 x0 r1 y6_L1 y23_L1 a3 ([]) y23_L1 0 φ
    else
      ∃ r5 : List (List Int), partition_groups_string.C y6_L1 r5 ∧
      φ ((⟨(x0.Rows.length : Int), r5⟩ : api_Partition)))) : L1 x0 r1 y6_L1 y23_L1 φ :=
 mIn <|
 mAsk 2 h dT dF (fun h =>
 mIx 5 enc_api_Row h fun a3 h4 h =>
 mLen 10 (eI .i64) r1 <|
 mFin 2 h) fun h =>
 mXit 2 [(0, .agg [.lit (.string x0.Name), .sl (x0.Attrs.map eS), .sl (x0.Rows.map enc_api_Row)]), (2, .box [.lit (.string x0.Name), .sl (x0.Attrs.map eS), .sl (x0.Rows.map enc_api_Row)]), (4, .box [.lit (.int .i64 0), .own []]), (6, .sl (y6_L1.map eS))] (trim_chillW (F0 := [(0, .agg [.lit (.string x0.Name), .sl (x0.Attrs.map eS), .sl (x0.Rows.map enc_api_Row)]), (2, .box [.lit (.string x0.Name), .sl (x0.Attrs.map eS), .sl (x0.Rows.map enc_api_Row)]), (4, .box [.lit (.int .i64 0), .own []]), (6, .own (y6_L1.map eS))]) (l := y6_L1) (e := eS) (e' := eS) (s := 6) (by kernel_rfl) (by kernel_rfl) (by kernel_rfl) (fun _ => rfl) (by kernel_rfl) (by kernel_rfl)) <|
 mLen 3 enc_api_Row x0.Rows <|
 mLo 1 h (fun _ h => h) fun r5 _ h =>
 mRet 3 h
theorem L2_step (x0 : api_Table) (r1 : List Int) (y6_L2 : List ByteArray) (y7_L2 : Int) (a3 : api_Row) (y9_L2 : List UInt8) (y23_L2 : Int) (y30_L2 : Int) (φ : api_Partition → Prop) (h :
    (if y30_L2 < (r1.length : Int) then
      ∃ a6, lget r1 y30_L2 = some a6 ∧
      ∃ a8, lget a3.Values a6 = some a8 ∧
      ∃ r10 : ByteArray × Int, value_Key.C a8 r10 ∧
      y9_L2.length + r10.1.size ≤ 140737488355328 ∧
      partition_of.L2 x0 r1 y6_L2 y7_L2 a3 ((y9_L2 ++ r10.1.data.toList)) y23_L2 ((IntKind.wrap .i64 (y30_L2 + 1))) φ
    else
      ∃ a12, lget y6_L2 y7_L2 = some a12 ∧
      partition_of.L1 x0 r1 ((lset y6_L2 y7_L2 (bstr y9_L2))) ((IntKind.wrap .i64 (y23_L2 + 1))) φ)) : L2 x0 r1 y6_L2 y7_L2 a3 y9_L2 y23_L2 y30_L2 φ :=
 mIn <|
 mAsk 2 h dT dF (fun h =>
 mIy 4 (eI .i64) h fun a6 h7 h =>
 mLd 0 (eI .i64) h7 <|
 mIx 6 enc_api_Value h fun a8 h9 h =>
 mCal 1 h (fun _ h => h) (hf := (fun _ => clF_flat (flat_tup (flts_cons rfl (flts_cons rfl flts_nil))) rfl)) fun r10 _ h =>
 h.elim fun h11 h =>
 mCalP 8 (show Ret env 55 [.bld 90 5 y9_L2, .lit (.string r10.1)] (.tup [.lit (.int .i64 ((bsize r10.1))), .lit .nilIface]) [.bld 90 5 ((y9_L2 ++ r10.1.data.toList))] from ret_write (by kernel_rfl) h11) <|
 mFin 5 h) fun h =>
 mCalP 6 (show Ret env 56 [.bld 90 5 y9_L2] (.lit (.string ((bstr y9_L2)))) [.box [.undef, .undef]] from ret_string (by kernel_rfl)) <|
 mIy 0 eS h fun a12 h13 h =>
 mSto 0 eS ((bstr y9_L2)) h13 <|
 mFin 5 h
theorem enter (x0 : api_Table) (x1 : Int) (φ : api_Partition → Prop) (h :
    ∃ r1 : List Int, attrset_Members.C x1 r1 ∧
    (0 ≤ (x0.Rows.length : Int) ∧ (x0.Rows.length : Int) * 16 ≤ 281474976710656) ∧
    partition_of.L1 x0 r1 ((List.replicate x0.Rows.length (⟨#[]⟩ : ByteArray))) 0 φ) : ∃ r, φ r ∧ C x0 x1 r :=
 mEnt (fd := Tryd.f33) (body := B) (V := W) (res := res) <|
 mCal 6 h (fun _ h => h) (hf := (fun _ => clF_flat (flat_ow (e := (eI .i64)) (fun _ => rfl)) rfl)) fun r1 _ h =>
 mLen 5 enc_api_Row x0.Rows <|
 h.elim fun h2 h =>
 mVl 0 (val_make (t := 22) (x := (.tmp 18)) (y := (.tmp 18)) (q := .i64) (i := (x0.Rows.length : Int)) (et := 9) (z := .lit (.string ((⟨#[]⟩ : ByteArray)))) (e := eS) (a := (⟨#[]⟩ : ByteArray)) (k := 16) (by kernel_rfl) (by kernel_rfl) (by kernel_rfl) (by kernel_rfl) (by kernel_rfl) (by kernel_rfl) (by kernel_rfl) (by kernel_rfl) (by kernel_rfl) (by kernel_rfl) h2.1 h2.2) <|
 mLen 5 enc_api_Row x0.Rows <|
 mFin 2 h
end partition_of
end Go.Own

namespace Go.Own
open Go.Proofs D
set_option maxRecDepth 100000
set_option maxHeartbeats 4000000
namespace partition_within
noncomputable def B : Code := (Tryd.f32.body).getD .skip
def W : List Nat := [0, 1, 2, 4]
def res (r : Bool) : D × List D := (.lit (.bool r), [])
def C (x0 : api_Table) (x1 : Int) (r : Bool) : Prop := Ret env 32 [.agg [.lit (.string x0.Name), .sl (x0.Attrs.map eS), .sl (x0.Rows.map enc_api_Row)], .lit (.int .u32 x1)] (res r).1 (res r).2
theorem enter (x0 : api_Table) (x1 : Int) (φ : Bool → Prop) (h :
    0 ≤ (x0.Attrs.length : Int) ∧
    φ (((shrw .u64 (IntKind.wrap .u64 x1) (x0.Attrs.length : Int)) == 0))) : ∃ r, φ r ∧ C x0 x1 r :=
 mEnt (fd := Tryd.f32) (body := B) (V := W) (res := res) <|
 mLen 9 eS x0.Attrs <|
 h.elim fun h1 h =>
 mBi 0 (bin_shr (t := 86) (q := .u64) (q' := .i64) (i1 := (IntKind.wrap .u64 x1)) h1) <|
 mRet 3 h
end partition_within
end Go.Own

namespace Go.Own
open Go.Proofs D
set_option maxRecDepth 100000
set_option maxHeartbeats 4000000
namespace partition_Of
noncomputable def B : Code := (Tryd.f12.body).getD .skip
def W : List Nat := [0, 1, 2, 4, 5, 6, 10, 16]
def res (r : api_Partition × Int) : D × List D := (.tup [.agg [.lit (.int .i64 r.1.Rows), .sl (r.1.Classes.map (eSl (eI .i64)))], .lit (.int .i64 r.2)], [])
def C (x0 : api_Table) (x1 : Int) (r : api_Partition × Int) : Prop := Ret env 12 [.agg [.lit (.string x0.Name), .sl (x0.Attrs.map eS), .sl (x0.Rows.map enc_api_Row)], .lit (.int .u32 x1)] (res r).1 (res r).2
theorem enter (x0 : api_Table) (x1 : Int) (φ : api_Partition × Int → Prop) (h :
    ∃ r1 : Int, table_Valid.C x0 r1 ∧
    (if r1 = 0 then
      ∃ r2 : Bool, partition_within.C x0 x1 r2 ∧
      (if r2 = true then
        ∃ r3 : api_Partition, partition_of.C x0 x1 r3 ∧
        φ ((r3, 0))
      else
        φ (((⟨0, []⟩ : api_Partition), 6)))
    else
      φ (((⟨0, []⟩ : api_Partition), r1)))) : ∃ r, φ r ∧ C x0 x1 r :=
 mEnt (fd := Tryd.f12) (body := B) (V := W) (res := res) <|
 mCal 7 h (fun _ h => h) fun r1 _ h =>
 mAskN 4 h bne_t bne_f (fun h =>
 mRet 8 h) fun h =>
 mCalB 6 h (fun _ h => h) (fun _ h =>
 mCal 7 h (fun _ h => h) fun r3 _ h =>
 mRet 3 h) fun _ h =>
 mRet 8 h
end partition_Of
end Go.Own

namespace Go.Own
open Go.Proofs D
set_option maxRecDepth 100000
set_option maxHeartbeats 4000000
namespace drossref08_Of
noncomputable def B : Code := (Tryd.f13.body).getD .skip
def W : List Nat := [0, 1, 2, 4, 5, 6, 7, 8, 9, 13, 22, 32, 42, 56]
def res (r : api_Partition × Int) : D × List D := (.tup [.agg [.lit (.int .i64 r.1.Rows), .own (r.1.Classes.map (eOw (eI .i64)))], .lit (.int .i64 r.2)], [])
def C (x0 : api_Table) (x1 : Int) (r : api_Partition × Int) : Prop := Ret env 13 [.agg [.lit (.string x0.Name), .sl (x0.Attrs.map eS), .sl (x0.Rows.map enc_api_Row)], .lit (.int .u32 x1)] (res r).1 (res r).2
def L1 (x0 : api_Table) (x1 : Int) (y7_L1 : List Int) (y8_L1 : Int) (φ : api_Partition × Int → Prop) : Prop := Pt env 13 W B [1, 1, 1, 1, 0, 1, 0] [(0, .agg [.lit (.string x0.Name), .sl (x0.Attrs.map eS), .sl (x0.Rows.map enc_api_Row)]), (1, .lit (.int .u32 x1)), (2, .box [.lit (.string x0.Name), .sl (x0.Attrs.map eS), .sl (x0.Rows.map enc_api_Row)]), (4, .box [.lit (.int .i64 0), .own []]), (7, .own (y7_L1.map (eI .i64))), (8, .lit (.int .i64 y8_L1))] (Lv env 13 Tryd.f13 2 res φ)
def L2 (x0 : api_Table) (x1 : Int) (y7_L2 : List Int) (y8_L2 : Int) (y9_L2 : Int) (φ : api_Partition × Int → Prop) : Prop := Pt env 13 W B [1, 1, 1, 1, 0, 1, 0, 0, 1, 0, 0, 1, 1, 0] [(0, .agg [.lit (.string x0.Name), .sl (x0.Attrs.map eS), .sl (x0.Rows.map enc_api_Row)]), (1, .lit (.int .u32 x1)), (2, .box [.lit (.string x0.Name), .sl (x0.Attrs.map eS), .sl (x0.Rows.map enc_api_Row)]), (4, .box [.lit (.int .i64 0), .own []]), (7, .own (y7_L2.map (eI .i64))), (8, .lit (.int .i64 y8_L2)), (9, .lit (.int .i64 y9_L2))] (Lv env 13 Tryd.f13 2 res φ)
def L3 (x0 : api_Table) (x1 : Int) (y7_L3 : List Int) (y8_L3 : Int) (y9_L2 : Int) (φ : api_Partition × Int → Prop) : Prop := Pt env 13 W B [1, 1, 1, 1, 0, 1, 0, 0, 1, 0, 0, 1, 1, 0, 0, 1, 1] [(0, .agg [.lit (.string x0.Name), .sl (x0.Attrs.map eS), .sl (x0.Rows.map enc_api_Row)]), (1, .lit (.int .u32 x1)), (2, .box [.lit (.string x0.Name), .sl (x0.Attrs.map eS), .sl (x0.Rows.map enc_api_Row)]), (4, .box [.lit (.int .i64 0), .own []]), (7, .own (y7_L3.map (eI .i64))), (8, .lit (.int .i64 y8_L3)), (9, .lit (.int .i64 y9_L2))] (Lv env 13 Tryd.f13 2 res φ)
theorem L1_step (x0 : api_Table) (x1 : Int) (y7_L1 : List Int) (y8_L1 : Int) (φ : api_Partition × Int → Prop) (h :
    (if y8_L1 < (x0.Rows.length : Int) then
      ∃ a4, lget y7_L1 y8_L1 = some a4 ∧
      drossref08_Of.L2 x0 x1 ((lset y7_L1 y8_L1 y8_L1)) y8_L1 ((IntKind.wrap .i64 (y8_L1 - 1))) φ
    else
      ∃ r6 : api_Partition, drossref08_group.C y7_L1 r6 ∧
      φ ((r6, 0)))) : L1 x0 x1 y7_L1 y8_L1 φ :=
 mIn <|
 mLen 5 enc_api_Row x0.Rows <|
 mAsk 0 h dT dF (fun h =>
 mIy 7 (eI .i64) h fun a4 h5 h =>
 mSto 0 (eI .i64) y8_L1 h5 <|
 mFin 6 h) fun h =>
 mCal 5 h (fun _ h => h) (hr := (pr_snap (snap_ow (s := 7) (ps := []) (l := y7_L1) (e := (eI .i64)) (e' := (eI .i64)) (fun _ => rfl) (by kernel_rfl)) pr_nil)) (hf := (fun _ => clF_flat (flat_agg (flts_cons rfl (flts_cons (flat_ow (e := (eOw (eI .i64))) (Flt.ow (fun _ => rfl))) flts_nil))) rfl)) fun r6 _ h =>
 mRet 3 h
theorem L2_step (x0 : api_Table) (x1 : Int) (y7_L2 : List Int) (y8_L2 : Int) (y9_L2 : Int) (φ : api_Partition × Int → Prop) (h :
    (if 0 ≤ y9_L2 then
      ∃ a7, lget x0.Rows y8_L2 = some a7 ∧
      ∃ a9, lget x0.Rows y9_L2 = some a9 ∧
      ∃ r11 : Bool, drossref03_Agree.C a7 a9 x1 r11 ∧
      (if r11 = true then
        ∃ a12, lget y7_L2 y9_L2 = some a12 ∧
        ∃ a14, lget y7_L2 y8_L2 = some a14 ∧
        drossref08_Of.L3 x0 x1 ((lset y7_L2 y8_L2 a12)) y8_L2 y9_L2 φ
      else
        drossref08_Of.L3 x0 x1 y7_L2 y8_L2 y9_L2 φ)
    else
      drossref08_Of.L1 x0 x1 y7_L2 ((IntKind.wrap .i64 (y8_L2 + 1))) φ)) : L2 x0 x1 y7_L2 y8_L2 y9_L2 φ :=
 mIn <|
 mAsk 3 h dT dF (fun h =>
 mIx 7 enc_api_Row h fun a7 h8 h =>
 mIx 4 enc_api_Row h fun a9 h10 h =>
 mCalB 2 h (fun _ h => h) (fun _ h =>
 mIy 7 (eI .i64) h fun a12 h13 h =>
 mLd 0 (eI .i64) h13 <|
 mIy 0 (eI .i64) h fun a14 h15 h =>
 mSto 0 (eI .i64) a12 h15 <|
 mFin 1 h) fun _ h =>
 mFin 3 h) fun h =>
 mFin 8 h
theorem L3_step (x0 : api_Table) (x1 : Int) (y7_L3 : List Int) (y8_L3 : Int) (y9_L2 : Int) (φ : api_Partition × Int → Prop) (h :
    drossref08_Of.L2 x0 x1 y7_L3 y8_L3 ((IntKind.wrap .i64 (y9_L2 - 1))) φ) : L3 x0 x1 y7_L3 y8_L3 y9_L2 φ :=
 mIn <|
 mFin 5 h
theorem enter (x0 : api_Table) (x1 : Int) (φ : api_Partition × Int → Prop) (h :
    ∃ r1 : Int, drossref03_Valid.C x0 r1 ∧
    (if r1 = 0 then
      ∃ r2 : Int, drossref02_Full.C ((x0.Attrs.length : Int)) r2 ∧
      (if (bAndNot .u32 x1 r2) = 0 then
        (0 ≤ (x0.Rows.length : Int) ∧ (x0.Rows.length : Int) * 8 ≤ 281474976710656) ∧
        drossref08_Of.L1 x0 x1 ((List.replicate x0.Rows.length (0 : Int))) 0 φ
      else
        φ (((⟨0, []⟩ : api_Partition), 6)))
    else
      φ (((⟨0, []⟩ : api_Partition), r1)))) : ∃ r, φ r ∧ C x0 x1 r :=
 mEnt (fd := Tryd.f13) (body := B) (V := W) (res := res) <|
 mCal 7 h (fun _ h => h) fun r1 _ h =>
 mAskN 4 h bne_t bne_f (fun h =>
 mRet 8 h) fun h =>
 mLen 7 eS x0.Attrs <|
 mCal 0 h (fun _ h => h) fun r2 _ h =>
 mAskN 1 h bne_t bne_f (fun h =>
 mRet 7 h) fun h =>
 mLen 6 enc_api_Row x0.Rows <|
 h.elim fun h3 h =>
 mVl 0 (val_make (t := 38) (x := (.tmp 26)) (y := (.tmp 26)) (q := .i64) (i := (x0.Rows.length : Int)) (et := 3) (z := .lit (.int .i64 0)) (e := (eI .i64)) (a := (0 : Int)) (k := 8) (by kernel_rfl) (by kernel_rfl) (by kernel_rfl) (by kernel_rfl) (by kernel_rfl) (by kernel_rfl) (by kernel_rfl) (by kernel_rfl) (by kernel_rfl) (by kernel_rfl) h3.1 h3.2) <|
 mFin 5 h
end drossref08_Of
end Go.Own

namespace Go.Own
open Go.Proofs D
set_option maxRecDepth 100000
set_option maxHeartbeats 4000000
namespace drossref08_Product
noncomputable def B : Code := (Tryd.f25.body).getD .skip
def W : List Nat := [0, 1, 2, 3, 4, 5, 6, 7, 8, 9, 10, 18, 24, 36, 46, 68]
def res (r : api_Partition × Int) : D × List D := (.tup [.agg [.lit (.int .i64 r.1.Rows), .own (r.1.Classes.map (eOw (eI .i64)))], .lit (.int .i64 r.2)], [])
def C (x0 : api_Partition) (x1 : api_Partition) (r : api_Partition × Int) : Prop := Ret env 25 [.agg [.lit (.int .i64 x0.Rows), .sl (x0.Classes.map (eSl (eI .i64)))], .agg [.lit (.int .i64 x1.Rows), .sl (x1.Classes.map (eSl (eI .i64)))]] (res r).1 (res r).2
def L1 (x0 : api_Partition) (r3 : List Int) (r4 : List Int) (y8_L1 : List Int) (y9_L1 : Int) (φ : api_Partition × Int → Prop) : Prop := Pt env 25 W B [1, 1, 1, 1, 1, 0, 1, 0] [(0, .agg [.lit (.int .i64 x0.Rows), .sl (x0.Classes.map (eSl (eI .i64)))]), (2, .box [.lit (.int .i64 x0.Rows), .sl (x0.Classes.map (eSl (eI .i64)))]), (4, .box [.lit (.int .i64 0), .own []]), (6, .own (r3.map (eI .i64))), (7, .own (r4.map (eI .i64))), (8, .own (y8_L1.map (eI .i64))), (9, .lit (.int .i64 y9_L1))] (Lv env 25 Tryd.f25 2 res φ)
def L2 (x0 : api_Partition) (r3 : List Int) (r4 : List Int) (y8_L2 : List Int) (y9_L2 : Int) (y10_L2 : Int) (φ : api_Partition × Int → Prop) : Prop := Pt env 25 W B [1, 1, 1, 1, 1, 0, 1, 0, 0, 1, 0, 0, 1, 1, 0] [(0, .agg [.lit (.int .i64 x0.Rows), .sl (x0.Classes.map (eSl (eI .i64)))]), (2, .box [.lit (.int .i64 x0.Rows), .sl (x0.Classes.map (eSl (eI .i64)))]), (4, .box [.lit (.int .i64 0), .own []]), (6, .own (r3.map (eI .i64))), (7, .own (r4.map (eI .i64))), (8, .own (y8_L2.map (eI .i64))), (9, .lit (.int .i64 y9_L2)), (10, .lit (.int .i64 y10_L2))] (Lv env 25 Tryd.f25 2 res φ)
def L3 (x0 : api_Partition) (r3 : List Int) (r4 : List Int) (y8_L3 : List Int) (y9_L3 : Int) (y10_L2 : Int) (φ : api_Partition × Int → Prop) : Prop := Pt env 25 W B [1, 1, 1, 1, 1, 0, 1, 0, 0, 1, 0, 0, 1, 1, 0, 0, 1, 1] [(0, .agg [.lit (.int .i64 x0.Rows), .sl (x0.Classes.map (eSl (eI .i64)))]), (2, .box [.lit (.int .i64 x0.Rows), .sl (x0.Classes.map (eSl (eI .i64)))]), (4, .box [.lit (.int .i64 0), .own []]), (6, .own (r3.map (eI .i64))), (7, .own (r4.map (eI .i64))), (8, .own (y8_L3.map (eI .i64))), (9, .lit (.int .i64 y9_L3)), (10, .lit (.int .i64 y10_L2))] (Lv env 25 Tryd.f25 2 res φ)
theorem L1_step (x0 : api_Partition) (r3 : List Int) (r4 : List Int) (y8_L1 : List Int) (y9_L1 : Int) (φ : api_Partition × Int → Prop) (h :
    (if y9_L1 < x0.Rows then
      ∃ a6, lget y8_L1 y9_L1 = some a6 ∧
      drossref08_Product.L2 x0 r3 r4 ((lset y8_L1 y9_L1 y9_L1)) y9_L1 ((IntKind.wrap .i64 (y9_L1 - 1))) φ
    else
      ∃ r8 : api_Partition, drossref08_group.C y8_L1 r8 ∧
      φ ((r8, 0)))) : L1 x0 r3 r4 y8_L1 y9_L1 φ :=
 mIn <|
 mAsk 5 h dT dF (fun h =>
 mIy 7 (eI .i64) h fun a6 h7 h =>
 mSto 0 (eI .i64) y9_L1 h7 <|
 mFin 6 h) fun h =>
 mCal 5 h (fun _ h => h) (hr := (pr_snap (snap_ow (s := 8) (ps := []) (l := y8_L1) (e := (eI .i64)) (e' := (eI .i64)) (fun _ => rfl) (by kernel_rfl)) pr_nil)) (hf := (fun _ => clF_flat (flat_agg (flts_cons rfl (flts_cons (flat_ow (e := (eOw (eI .i64))) (Flt.ow (fun _ => rfl))) flts_nil))) rfl)) fun r8 _ h =>
 mRet 3 h
theorem L2_step (x0 : api_Partition) (r3 : List Int) (r4 : List Int) (y8_L2 : List Int) (y9_L2 : Int) (y10_L2 : Int) (φ : api_Partition × Int → Prop) (h :
    (if 0 ≤ y10_L2 then
      ∃ a9, lget r3 y9_L2 = some a9 ∧
      ∃ a11, lget r3 y10_L2 = some a11 ∧
      (if a9 = a11 then
        ∃ a13, lget r4 y9_L2 = some a13 ∧
        ∃ a15, lget r4 y10_L2 = some a15 ∧
        (if a13 = a15 then
          ∃ a17, lget y8_L2 y10_L2 = some a17 ∧
          ∃ a19, lget y8_L2 y9_L2 = some a19 ∧
          drossref08_Product.L3 x0 r3 r4 ((lset y8_L2 y9_L2 a17)) y9_L2 y10_L2 φ
        else
          drossref08_Product.L3 x0 r3 r4 y8_L2 y9_L2 y10_L2 φ)
      else
        drossref08_Product.L3 x0 r3 r4 y8_L2 y9_L2 y10_L2 φ)
    else
      drossref08_Product.L1 x0 r3 r4 y8_L2 ((IntKind.wrap .i64 (y9_L2 + 1))) φ)) : L2 x0 r3 r4 y8_L2 y9_L2 y10_L2 φ :=
 mIn <|
 mAsk 3 h dT dF (fun h =>
 mIy 6 (eI .i64) h fun a9 h10 h =>
 mLd 0 (eI .i64) h10 <|
 mIy 2 (eI .i64) h fun a11 h12 h =>
 mLd 0 (eI .i64) h12 <|
 mAsk 0 h beq_t beq_f (fun h =>
 mIy 3 (eI .i64) h fun a13 h14 h =>
 mLd 0 (eI .i64) h14 <|
 mIy 2 (eI .i64) h fun a15 h16 h =>
 mLd 0 (eI .i64) h16 <|
 mAsk 0 h beq_t beq_f (fun h =>
 mIy 8 (eI .i64) h fun a17 h18 h =>
 mLd 0 (eI .i64) h18 <|
 mIy 0 (eI .i64) h fun a19 h20 h =>
 mSto 0 (eI .i64) a17 h20 <|
 mFin 1 h) fun h =>
 mFin 4 h) fun h =>
 mFin 14 h) fun h =>
 mFin 8 h
theorem L3_step (x0 : api_Partition) (r3 : List Int) (r4 : List Int) (y8_L3 : List Int) (y9_L3 : Int) (y10_L2 : Int) (φ : api_Partition × Int → Prop) (h :
    drossref08_Product.L2 x0 r3 r4 y8_L3 y9_L3 ((IntKind.wrap .i64 (y10_L2 - 1))) φ) : L3 x0 r3 r4 y8_L3 y9_L3 y10_L2 φ :=
 mIn <|
 mFin 5 h
theorem enter (x0 : api_Partition) (x1 : api_Partition) (φ : api_Partition × Int → Prop) (h :
    ∃ r1 : Bool, drossref08_Valid.C x0 r1 ∧
    (if r1 = true then
      ∃ r2 : Bool, drossref08_Valid.C x1 r2 ∧
      (if r2 = true then
        (if x0.Rows = x1.Rows then
          ∃ r3 : List Int, drossref08_Labels.C x0 r3 ∧
          ∃ r4 : List Int, drossref08_Labels.C x1 r4 ∧
          (0 ≤ x0.Rows ∧ x0.Rows * 8 ≤ 281474976710656) ∧
          drossref08_Product.L1 x0 r3 r4 ((List.replicate x0.Rows.toNat (0 : Int))) 0 φ
        else
          φ (((⟨0, []⟩ : api_Partition), 6)))
      else
        φ (((⟨0, []⟩ : api_Partition), 1)))
    else
      φ (((⟨0, []⟩ : api_Partition), 1)))) : ∃ r, φ r ∧ C x0 x1 r :=
 mEnt (fd := Tryd.f25) (body := B) (V := W) (res := res) <|
 mCalB 8 h (fun _ h => h) (fun _ h =>
 mCalB 3 h (fun _ h => h) (fun _ h =>
 mAskN 10 h bne_t bne_f (fun h =>
 mRet 7 h) fun h =>
 mLo 5 h (fun _ h => h) (hf := (fun _ => loF_flat (flat_ow (e := (eI .i64)) (fun _ => rfl)))) fun r3 _ h =>
 mCal 1 h (fun _ h => h) (hf := (fun _ => clF_flat (flat_ow (e := (eI .i64)) (fun _ => rfl)) rfl)) fun r4 _ h =>
 h.elim fun h5 h =>
 mVl 6 (val_make (t := 38) (x := (.tmp 31)) (y := (.tmp 31)) (q := .i64) (i := x0.Rows) (et := 3) (z := .lit (.int .i64 0)) (e := (eI .i64)) (a := (0 : Int)) (k := 8) (by kernel_rfl) (by kernel_rfl) (by kernel_rfl) (by kernel_rfl) (by kernel_rfl) (by kernel_rfl) (by kernel_rfl) (by kernel_rfl) (by kernel_rfl) (by kernel_rfl) h5.1 h5.2) <|
 mFin 5 h) fun _ h =>
 mRet 9 h) fun _ h =>
 mRet 13 h
end drossref08_Product
end Go.Own

namespace Go.Own
open Go.Proofs D
set_option maxRecDepth 100000
set_option maxHeartbeats 4000000
namespace partition_Refines_1_1
noncomputable def B : Code := (Tryd.f47.body).getD .skip
def W : List Nat := [0, 1, 2, 4]
def res (r : Bool) : D × List D := (.lit (.bool r), [])
def C (x0 : Int) (k1_0 : List Int) (k2_0 : List Int) (r : Bool) : Prop := Ret env 47 [.lit (.int .i64 x0), .ref [.sl (k1_0.map (eI .i64))], .ref [.sl (k2_0.map (eI .i64))]] (res r).1 (res r).2
theorem enter (x0 : Int) (k1_0 : List Int) (k2_0 : List Int) (φ : Bool → Prop) (h :
    ∃ a1, lget k1_0 x0 = some a1 ∧
    ∃ a3, lget k2_0 0 = some a3 ∧
    ∃ a5, lget k1_0 a3 = some a5 ∧
    φ ((a1 != a5))) : ∃ r, φ r ∧ C x0 k1_0 k2_0 r :=
 mEnt (fd := Tryd.f47) (body := B) (V := W) (res := res) <|
 mIx 6 (eI .i64) h fun a1 h2 h =>
 mIx 3 (eI .i64) h fun a3 h4 h =>
 mIx 1 (eI .i64) h fun a5 h6 h =>
 mRet 4 h
end partition_Refines_1_1
end Go.Own

namespace Go.Own
open Go.Proofs D
set_option maxRecDepth 100000
set_option maxHeartbeats 4000000
namespace slices_IndexFunc_sint_int_partition_Refines_1_1
noncomputable def B : Code := (Tryd.f67.body).getD .skip
def W : List Nat := [0, 1, 4, 5, 7, 8, 9, 16]
def res (r : Int) : D × List D := (.lit (.int .i64 r), [])
def C (x0 : List Int) (k1_0 : List Int) (k1_1 : List Int) (r : Int) : Prop := Ret env 67 [.sl (x0.map (eI .i64)), .fn 47 [.ref [.sl (k1_0.map (eI .i64))], .ref [.sl (k1_1.map (eI .i64))]]] (res r).1 (res r).2
def L1 (x0 : List Int) (k1_0 : List Int) (k1_1 : List Int) (y8_L1 : Int) (φ : Int → Prop) : Prop := Pt env 67 W B [1, 0, 1, 0] [(0, .sl (x0.map (eI .i64))), (1, .fn 47 [.ref [.sl (k1_0.map (eI .i64))], .ref [.sl (k1_1.map (eI .i64))]]), (7, .lit (.int .i64 ((x0.length : Int)))), (8, .lit (.int .i64 y8_L1))] (Lv env 67 Tryd.f67 2 res φ)
theorem L1_step (x0 : List Int) (k1_0 : List Int) (k1_1 : List Int) (y8_L1 : Int) (φ : Int → Prop) (h :
    (if y8_L1 < (x0.length : Int) then
      ∃ a1, lget x0 y8_L1 = some a1 ∧
      ∃ r3 : Bool, partition_Refines_1_1.C a1 k1_0 k1_1 r3 ∧
      (if r3 = true then
        φ y8_L1
      else
        slices_IndexFunc_sint_int_partition_Refines_1_1.L1 x0 k1_0 k1_1 ((IntKind.wrap .i64 (y8_L1 + 1))) φ)
    else
      φ ((-1)))) : L1 x0 k1_0 k1_1 y8_L1 φ :=
 mIn <|
 mAsk 2 h dT dF (fun h =>
 mIx 11 (eI .i64) h fun a1 h2 h =>
 mCalB 1 h (fun _ h => h) (fun _ h =>
 mRet 6 h) fun _ h =>
 mFin 7 h) fun h =>
 mRet 6 h
theorem enter (x0 : List Int) (k1_0 : List Int) (k1_1 : List Int) (φ : Int → Prop) (h :
    slices_IndexFunc_sint_int_partition_Refines_1_1.L1 x0 k1_0 k1_1 0 φ) : ∃ r, φ r ∧ C x0 k1_0 k1_1 r :=
 mEnt (fd := Tryd.f67) (body := B) (V := W) (res := res) <|
 mLen 5 (eI .i64) x0 <|
 mFin 2 h
end slices_IndexFunc_sint_int_partition_Refines_1_1
end Go.Own

namespace Go.Own
open Go.Proofs D
set_option maxRecDepth 100000
set_option maxHeartbeats 4000000
namespace slices_ContainsFunc_sint_int_partition_Refines_1_1
noncomputable def B : Code := (Tryd.f46.body).getD .skip
def W : List Nat := [0, 1, 4]
def res (r : Bool) : D × List D := (.lit (.bool r), [])
def C (x0 : List Int) (k1_0 : List Int) (k1_1 : List Int) (r : Bool) : Prop := Ret env 46 [.sl (x0.map (eI .i64)), .fn 47 [.ref [.sl (k1_0.map (eI .i64))], .ref [.sl (k1_1.map (eI .i64))]]] (res r).1 (res r).2
theorem enter (x0 : List Int) (k1_0 : List Int) (k1_1 : List Int) (φ : Bool → Prop) (h :
    ∃ r1 : Int, slices_IndexFunc_sint_int_partition_Refines_1_1.C x0 k1_0 k1_1 r1 ∧
    φ ((decide (0 ≤ r1)))) : ∃ r, φ r ∧ C x0 k1_0 k1_1 r :=
 mEnt (fd := Tryd.f46) (body := B) (V := W) (res := res) <|
 mCal 6 h (fun _ h => h) fun r1 _ h =>
 mRet 3 h
end slices_ContainsFunc_sint_int_partition_Refines_1_1
end Go.Own

namespace Go.Own
open Go.Proofs D
set_option maxRecDepth 100000
set_option maxHeartbeats 4000000
namespace partition_Refines_1
noncomputable def B : Code := (Tryd.f45.body).getD .skip
def W : List Nat := [0, 1, 2, 3]
def res (r : Bool) : D × List D := (.lit (.bool r), [])
def C (x0 : List Int) (k1_0 : List Int) (r : Bool) : Prop := Ret env 45 [.sl (x0.map (eI .i64)), .ref [.sl (k1_0.map (eI .i64))]] (res r).1 (res r).2
theorem enter (x0 : List Int) (k1_0 : List Int) (φ : Bool → Prop) (h :
    ∃ r1 : Bool, slices_ContainsFunc_sint_int_partition_Refines_1_1.C x0 k1_0 x0 r1 ∧
    φ r1) : ∃ r, φ r ∧ C x0 k1_0 r :=
 mEnt (fd := Tryd.f45) (body := B) (V := W) (res := res) <|
 mCal 7 h (fun _ h => h) fun r1 _ h =>
 mRet 2 h
end partition_Refines_1
end Go.Own

namespace Go.Own
open Go.Proofs D
set_option maxRecDepth 100000
set_option maxHeartbeats 4000000
namespace slices_IndexFunc_ssint_sint_partition_Refines_1
noncomputable def B : Code := (Tryd.f66.body).getD .skip
def W : List Nat := [0, 1, 4, 5, 7, 8, 9, 16]
def res (r : Int) : D × List D := (.lit (.int .i64 r), [])
def C (x0 : List (List Int)) (k1_0 : List Int) (r : Int) : Prop := Ret env 66 [.sl (x0.map (eSl (eI .i64))), .fn 45 [.ref [.sl (k1_0.map (eI .i64))]]] (res r).1 (res r).2
def L1 (x0 : List (List Int)) (k1_0 : List Int) (y8_L1 : Int) (φ : Int → Prop) : Prop := Pt env 66 W B [1, 0, 1, 0] [(0, .sl (x0.map (eSl (eI .i64)))), (1, .fn 45 [.ref [.sl (k1_0.map (eI .i64))]]), (7, .lit (.int .i64 ((x0.length : Int)))), (8, .lit (.int .i64 y8_L1))] (Lv env 66 Tryd.f66 2 res φ)
theorem L1_step (x0 : List (List Int)) (k1_0 : List Int) (y8_L1 : Int) (φ : Int → Prop) (h :
    (if y8_L1 < (x0.length : Int) then
      ∃ a1, lget x0 y8_L1 = some a1 ∧
      ∃ r3 : Bool, partition_Refines_1.C a1 k1_0 r3 ∧
      (if r3 = true then
        φ y8_L1
      else
        slices_IndexFunc_ssint_sint_partition_Refines_1.L1 x0 k1_0 ((IntKind.wrap .i64 (y8_L1 + 1))) φ)
    else
      φ ((-1)))) : L1 x0 k1_0 y8_L1 φ :=
 mIn <|
 mAsk 2 h dT dF (fun h =>
 mIx 11 (eSl (eI .i64)) h fun a1 h2 h =>
 mCalB 1 h (fun _ h => h) (fun _ h =>
 mRet 6 h) fun _ h =>
 mFin 7 h) fun h =>
 mRet 6 h
theorem enter (x0 : List (List Int)) (k1_0 : List Int) (φ : Int → Prop) (h :
    slices_IndexFunc_ssint_sint_partition_Refines_1.L1 x0 k1_0 0 φ) : ∃ r, φ r ∧ C x0 k1_0 r :=
 mEnt (fd := Tryd.f66) (body := B) (V := W) (res := res) <|
 mLen 5 (eSl (eI .i64)) x0 <|
 mFin 2 h
end slices_IndexFunc_ssint_sint_partition_Refines_1
end Go.Own

namespace Go.Own
open Go.Proofs D
set_option maxRecDepth 100000
set_option maxHeartbeats 4000000
namespace slices_ContainsFunc_ssint_sint_partition_Refines_1
noncomputable def B : Code := (Tryd.f44.body).getD .skip
def W : List Nat := [0, 1, 4]
def res (r : Bool) : D × List D := (.lit (.bool r), [])
def C (x0 : List (List Int)) (k1_0 : List Int) (r : Bool) : Prop := Ret env 44 [.sl (x0.map (eSl (eI .i64))), .fn 45 [.ref [.sl (k1_0.map (eI .i64))]]] (res r).1 (res r).2
theorem enter (x0 : List (List Int)) (k1_0 : List Int) (φ : Bool → Prop) (h :
    ∃ r1 : Int, slices_IndexFunc_ssint_sint_partition_Refines_1.C x0 k1_0 r1 ∧
    φ ((decide (0 ≤ r1)))) : ∃ r, φ r ∧ C x0 k1_0 r :=
 mEnt (fd := Tryd.f44) (body := B) (V := W) (res := res) <|
 mCal 6 h (fun _ h => h) fun r1 _ h =>
 mRet 3 h
end slices_ContainsFunc_ssint_sint_partition_Refines_1
end Go.Own

namespace Go.Own
open Go.Proofs D
set_option maxRecDepth 100000
set_option maxHeartbeats 4000000
namespace partition_Refines
noncomputable def B : Code := (Tryd.f26.body).getD .skip
def W : List Nat := [0, 1, 2, 3, 4, 5, 9]
def res (r : Bool) : D × List D := (.lit (.bool r), [])
def C (x0 : api_Partition) (x1 : api_Partition) (r : Bool) : Prop := Ret env 26 [.agg [.lit (.int .i64 x0.Rows), .sl (x0.Classes.map (eSl (eI .i64)))], .agg [.lit (.int .i64 x1.Rows), .sl (x1.Classes.map (eSl (eI .i64)))]] (res r).1 (res r).2
theorem enter (x0 : api_Partition) (x1 : api_Partition) (φ : Bool → Prop) (h :
    ∃ r1 : Int, partition_both.C x0 x1 r1 ∧
    (if r1 = 0 then
      ∃ r2 : List Int, partition_labels.C x1 r2 ∧
      ∃ r3 : Bool, slices_ContainsFunc_ssint_sint_partition_Refines_1.C x0.Classes r2 r3 ∧
      φ ((not r3))
    else
      φ false)) : ∃ r, φ r ∧ C x0 x1 r :=
 mEnt (fd := Tryd.f26) (body := B) (V := W) (res := res) <|
 mCal 8 h (fun _ h => h) fun r1 _ h =>
 mAskN 0 h bne_t bne_f (fun h =>
 mRet 5 h) fun h =>
 mCal 5 h (fun _ h => h) (hf := (fun _ => clF_flat (flat_ow (e := (eI .i64)) (fun _ => rfl)) rfl)) fun r2 _ h =>
 mCal 7 h (fun _ h => h) (hr := (pr_k (pr_snap (snap_fn (snaps_cons (snap_box (s := 5) (ps := []) (by kernel_rfl) (fcs_cons (freeze_ow (e := (eI .i64)) (e' := (eI .i64)) (fun _ => rfl) r2) fcs_nil)) snaps_nil)) pr_nil))) fun r3 _ h =>
 mRet 3 h
end partition_Refines
end Go.Own

namespace Go.Own
open Go.Proofs D
set_option maxRecDepth 100000
set_option maxHeartbeats 4000000
namespace drossref08_Refines
noncomputable def B : Code := (Tryd.f27.body).getD .skip
def W : List Nat := [0, 1, 2, 3, 4, 5, 6, 7, 8, 23, 31, 36, 58]
def res (r : Bool) : D × List D := (.lit (.bool r), [])
def C (x0 : api_Partition) (x1 : api_Partition) (r : Bool) : Prop := Ret env 27 [.agg [.lit (.int .i64 x0.Rows), .sl (x0.Classes.map (eSl (eI .i64)))], .agg [.lit (.int .i64 x1.Rows), .sl (x1.Classes.map (eSl (eI .i64)))]] (res r).1 (res r).2
def L1 (x0 : api_Partition) (r3 : List Int) (r4 : List Int) (y7_L1 : Int) (φ : Bool → Prop) : Prop := Pt env 27 W B [1, 1, 1, 0, 1, 0] [(0, .agg [.lit (.int .i64 x0.Rows), .sl (x0.Classes.map (eSl (eI .i64)))]), (2, .box [.lit (.int .i64 x0.Rows), .sl (x0.Classes.map (eSl (eI .i64)))]), (5, .own (r3.map (eI .i64))), (6, .own (r4.map (eI .i64))), (7, .lit (.int .i64 y7_L1))] (Lv env 27 Tryd.f27 2 res φ)
def L2 (x0 : api_Partition) (r3 : List Int) (r4 : List Int) (y7_L2 : Int) (y8_L2 : Int) (φ : Bool → Prop) : Prop := Pt env 27 W B [1, 1, 1, 0, 1, 0, 0, 1, 0, 0, 1, 0] [(0, .agg [.lit (.int .i64 x0.Rows), .sl (x0.Classes.map (eSl (eI .i64)))]), (2, .box [.lit (.int .i64 x0.Rows), .sl (x0.Classes.map (eSl (eI .i64)))]), (5, .own (r3.map (eI .i64))), (6, .own (r4.map (eI .i64))), (7, .lit (.int .i64 y7_L2)), (8, .lit (.int .i64 y8_L2))] (Lv env 27 Tryd.f27 2 res φ)
def L3 (x0 : api_Partition) (r3 : List Int) (r4 : List Int) (y7_L3 : Int) (y8_L2 : Int) (φ : Bool → Prop) : Prop := Pt env 27 W B [1, 1, 1, 0, 1, 0, 0, 1, 0, 0, 1, 0, 0, 1, 1] [(0, .agg [.lit (.int .i64 x0.Rows), .sl (x0.Classes.map (eSl (eI .i64)))]), (2, .box [.lit (.int .i64 x0.Rows), .sl (x0.Classes.map (eSl (eI .i64)))]), (5, .own (r3.map (eI .i64))), (6, .own (r4.map (eI .i64))), (7, .lit (.int .i64 y7_L3)), (8, .lit (.int .i64 y8_L2))] (Lv env 27 Tryd.f27 2 res φ)
theorem L1_step (x0 : api_Partition) (r3 : List Int) (r4 : List Int) (y7_L1 : Int) (φ : Bool → Prop) (h :
    (if y7_L1 < x0.Rows then
      drossref08_Refines.L2 x0 r3 r4 y7_L1 0 φ
    else
      φ true)) : L1 x0 r3 r4 y7_L1 φ :=
 mIn <|
 mAsk 5 h dT dF (fun h =>
 mFin 6 h) fun h =>
 mRet 6 h
theorem L2_step (x0 : api_Partition) (r3 : List Int) (r4 : List Int) (y7_L2 : Int) (y8_L2 : Int) (φ : Bool → Prop) (h :
    (if y8_L2 < y7_L2 then
      ∃ a5, lget r3 y7_L2 = some a5 ∧
      ∃ a7, lget r3 y8_L2 = some a7 ∧
      (if a5 = a7 then
        ∃ a9, lget r4 y7_L2 = some a9 ∧
        ∃ a11, lget r4 y8_L2 = some a11 ∧
        (if a9 = a11 then
          drossref08_Refines.L3 x0 r3 r4 y7_L2 y8_L2 φ
        else
          φ false)
      else
        drossref08_Refines.L3 x0 r3 r4 y7_L2 y8_L2 φ)
    else
      drossref08_Refines.L1 x0 r3 r4 ((IntKind.wrap .i64 (y7_L2 + 1))) φ)) : L2 x0 r3 r4 y7_L2 y8_L2 φ :=
 mIn <|
 mAsk 4 h dT dF (fun h =>
 mIy 6 (eI .i64) h fun a5 h6 h =>
 mLd 0 (eI .i64) h6 <|
 mIy 2 (eI .i64) h fun a7 h8 h =>
 mLd 0 (eI .i64) h8 <|
 mAsk 0 h beq_t beq_f (fun h =>
 mIy 3 (eI .i64) h fun a9 h10 h =>
 mLd 0 (eI .i64) h10 <|
 mIy 2 (eI .i64) h fun a11 h12 h =>
 mLd 0 (eI .i64) h12 <|
 mAskN 0 h bne_t bne_f (fun h =>
 mRet 6 h) fun h =>
 mFin 4 h) fun h =>
 mFin 14 h) fun h =>
 mFin 8 h
theorem L3_step (x0 : api_Partition) (r3 : List Int) (r4 : List Int) (y7_L3 : Int) (y8_L2 : Int) (φ : Bool → Prop) (h :
    drossref08_Refines.L2 x0 r3 r4 y7_L3 ((IntKind.wrap .i64 (y8_L2 + 1))) φ) : L3 x0 r3 r4 y7_L3 y8_L2 φ :=
 mIn <|
 mFin 5 h
theorem enter (x0 : api_Partition) (x1 : api_Partition) (φ : Bool → Prop) (h :
    ∃ r1 : Bool, drossref08_Valid.C x0 r1 ∧
    (if r1 = true then
      ∃ r2 : Bool, drossref08_Valid.C x1 r2 ∧
      (if r2 = true then
        (if x0.Rows = x1.Rows then
          ∃ r3 : List Int, drossref08_Labels.C x0 r3 ∧
          ∃ r4 : List Int, drossref08_Labels.C x1 r4 ∧
          drossref08_Refines.L1 x0 r3 r4 0 φ
        else
          φ false)
      else
        φ false)
    else
      φ false)) : ∃ r, φ r ∧ C x0 x1 r :=
 mEnt (fd := Tryd.f27) (body := B) (V := W) (res := res) <|
 mCalB 7 h (fun _ h => h) (fun _ h =>
 mCalB 3 h (fun _ h => h) (fun _ h =>
 mAskN 7 h bne_t bne_f (fun h =>
 mRet 6 h) fun h =>
 mLo 6 h (fun _ h => h) (hf := (fun _ => loF_flat (flat_ow (e := (eI .i64)) (fun _ => rfl)))) fun r3 _ h =>
 mCal 1 h (fun _ h => h) (hf := (fun _ => clF_flat (flat_ow (e := (eI .i64)) (fun _ => rfl)) rfl)) fun r4 _ h =>
 mFin 6 h) fun _ h =>
 mRet 14 h) fun _ h =>
 mRet 18 h
end drossref08_Refines
end Go.Own

namespace Go.Own
theorem sorted_eq {α : Type} (f : α → Int) : ∀ {l m : List α}, l.Pairwise (fun a b => f a < f b) → m.Pairwise (fun a b => f a < f b) → (∀ x, x ∈ l ↔ x ∈ m) → l = m
  | [], [], _, _, _ => rfl
  | [], b :: m, _, _, h => by have := (h b).2 (by simp); cases this
  | a :: l, [], _, _, h => by have := (h a).1 (by simp); cases this
  | a :: l, b :: m, hl, hm, h => by
    have hl' := List.pairwise_cons.1 hl
    have hm' := List.pairwise_cons.1 hm
    have hab : a = b := by
      rcases List.mem_cons.1 ((h a).1 (by simp)) with h1 | h1
      · exact h1
      · rcases List.mem_cons.1 ((h b).2 (by simp)) with h2 | h2
        · exact h2.symm
        · have := hm'.1 a h1; have := hl'.1 b h2; omega
    subst hab
    congr 1
    refine sorted_eq f hl'.2 hm'.2 fun x => ⟨fun hx => ?_, fun hx => ?_⟩
    · rcases List.mem_cons.1 ((h x).1 (by simp [hx])) with h1 | h1
      · subst h1; have := hl'.1 x hx; omega
      · exact h1
    · rcases List.mem_cons.1 ((h x).2 (by simp [hx])) with h1 | h1
      · subst h1; have := hm'.1 x hx; omega
      · exact h1
theorem CP_sub {p q : api_Partition} (hp : CP p.Rows p.Classes) (hq : CP p.Rows q.Classes) (h : ∀ i j, 0 ≤ i ∧ i < p.Rows → 0 ≤ j ∧ j < p.Rows → (Same p i j ↔ Same q i j)) {c : List Int} (hc : c ∈ p.Classes) : c ∈ q.Classes := by
  match c, hc, hp.two c hc with
  | a :: b :: t, hc, _ =>
    have hin := hp.inn _ hc
    have hlt : a < b := (List.pairwise_cons.1 (hp.inc _ hc)).1 b (by simp)
    have hs : Same q a b := (h a b (hin a (by simp)) (hin b (by simp))).1 (.inr ⟨_, hc, by simp, by simp⟩)
    rcases hs with h1 | ⟨d, hd, h1, h2⟩
    · omega
    · have : a :: b :: t = d := by
        refine sorted_eq id (hp.inc _ hc) (hq.inc _ hd) fun x => ⟨fun hx => ?_, fun hx => ?_⟩
        · rcases (h a x (hin a (by simp)) (hin x hx)).1 (.inr ⟨_, hc, by simp, hx⟩) with h3 | ⟨e, he, h3, h4⟩
          · rw [← h3]; exact h1
          · rw [hq.uniq hd he h1 h3]; exact h4
        · have hxr := hq.inn _ hd x hx
          rcases (h a x (hin a (by simp)) hxr).2 (.inr ⟨_, hd, h1, hx⟩) with h3 | ⟨e, he, h3, h4⟩
          · rw [← h3]; simp
          · rw [hp.uniq hc he (by simp) h3]; exact h4
      rw [this]; exact hd
theorem CP_eq {p q : api_Partition} (hr : p.Rows = q.Rows) (hp : CP p.Rows p.Classes) (hq : CP q.Rows q.Classes) (h : ∀ i j, 0 ≤ i ∧ i < p.Rows → 0 ≤ j ∧ j < p.Rows → (Same p i j ↔ Same q i j)) : p = q := by
  obtain ⟨r0, c0⟩ := p
  obtain ⟨r1, c1⟩ := q
  simp only at hr
  subst hr
  congr 1
  exact sorted_eq (fun c => c.headD 0) hp.heads hq.heads fun c => ⟨fun hc => CP_sub (p := ⟨r0, c0⟩) (q := ⟨r0, c1⟩) hp hq h hc, fun hc => CP_sub (p := ⟨r0, c1⟩) (q := ⟨r0, c0⟩) hq hp (fun i j hi hj => (h i j hi hj).symm) hc⟩
theorem bothF_ok {a b : api_Partition} (h : bothF a b = 0) : validF a = true ∧ validF b = true ∧ a.Rows = b.Rows := by
  unfold bothF at h
  split at h
  · split at h
    · split at h
      · exact ⟨by assumption, by assumption, by assumption⟩
      · omega
    · omega
  · omega
def prodP (a b : api_Partition) : api_Partition := part (zipL (labN a) (labN b))
theorem prodP_eq {a b : api_Partition} (h : bothF a b = 0) : prodF a b = (prodP a b, 0) := by
  obtain ⟨va, vb, hr⟩ := bothF_ok h
  unfold prodF prodP part
  rw [if_pos h]
  have : ((zipL (labN a) (labN b)).length : Int) = a.Rows := by
    have := (valid_iff.1 va).1
    simp [zipL, labN_len, ← hr]; omega
  rw [this]
theorem prodP_len {a b : api_Partition} (h : bothF a b = 0) : (zipL (labN a) (labN b)).length = a.Rows.toNat := by
  obtain ⟨va, vb, hr⟩ := bothF_ok h
  simp [zipL, labN_len, ← hr]
theorem prodP_valid {a b : api_Partition} (h : bothF a b = 0) : validF (prodP a b) = true := by
  have := (valid_iff.1 (bothF_ok h).1).2.1
  exact part_valid (by rw [prodP_len h]; omega)
theorem prodP_rows {a b : api_Partition} (h : bothF a b = 0) : (prodP a b).Rows = a.Rows := by
  have := (valid_iff.1 (bothF_ok h).1).1
  simp only [prodP, part, prodP_len h]; omega
theorem prodP_same {a b : api_Partition} (h : bothF a b = 0) {i j : Int} (hi : 0 ≤ i ∧ i < a.Rows) (hj : 0 ≤ j ∧ j < a.Rows) : Same (prodP a b) i j ↔ Same a i j ∧ Same b i j := by
  obtain ⟨va, vb, hr⟩ := bothF_ok h
  have hl := prodP_len h
  unfold prodP
  rw [part_same (by omega) (by omega), ← labN_same va hi hj, ← labN_same vb (by omega) (by omega)]
  obtain ⟨i, rfl⟩ := Int.eq_ofNat_of_zero_le hi.1
  obtain ⟨j, rfl⟩ := Int.eq_ofNat_of_zero_le hj.1
  show lget _ ((i : Nat) : Int) = lget _ ((j : Nat) : Int) ↔ lget _ ((i : Nat) : Int) = lget _ ((j : Nat) : Int) ∧ lget _ ((i : Nat) : Int) = lget _ ((j : Nat) : Int)
  simp only [lget_nat]
  have n1 := labN_len (p := a)
  have n2 := labN_len (p := b)
  have e1 : ((i : Nat) : Int) < a.Rows := hi.2
  have e2 : ((j : Nat) : Int) < a.Rows := hj.2
  exact zip_get (by rw [n1, n2, hr]) (by omega) (by omega)
end Go.Own

namespace Go.Own
namespace drossref08_Product
theorem inner {x0 : api_Partition} {l m : List Int} {z : List (Int × Int)} {φ : api_Partition × Int → Prop} {i : Nat} (hz : z = l.zip m) (hl : l.length = z.length) (hm : m.length = z.length) (hi : i < z.length) (hn : z.length ≤ 1000)
    (k : Nat) : ∀ (y : List Int), k ≤ i → y.length = z.length → (∀ j : Nat, j < i → y[j]? = some ((frst z j : Nat) : Int)) → ((y[i]? = some (i : Int) ∧ ∀ j : Nat, k ≤ j → j < i → z[j]? ≠ z[i]?) ∨ y[i]? = some ((frst z i : Nat) : Int)) →
    (∀ y' : List Int, y'.length = z.length → (∀ j : Nat, j < i + 1 → y'[j]? = some ((frst z j : Nat) : Int)) → (∀ j : Nat, i < j → y'[j]? = y[j]?) → L1 x0 l m y' ((i + 1 : Nat) : Int) φ) → L2 x0 l m y i ((k : Int) - 1) φ := by
  induction k with
  | zero =>
    intro y hk hy hj hs h
    apply L2_step
    rw [if_neg (by omega), wrap_succ (by omega)]
    refine h y hy (fun j hji => ?_) (fun _ _ => rfl)
    by_cases hji2 : j < i
    · exact hj j hji2
    · have : j = i := by omega
      subst this
      rcases hs with ⟨h1, h2⟩ | h1
      · have hf := frst_spec (z := z) (i := j)
        have : frst z j = j := by
          rcases Nat.lt_or_ge (frst z j) j with h3 | h3
          · exact absurd hf.2.1 (h2 _ (by omega) h3)
          · omega
        rw [this]; exact h1
      · exact h1
  | succ k ih =>
    intro y hk hy hj hs h
    apply L2_step
    have hki : k < i := by omega
    have e : (((k + 1 : Nat) : Int) - 1) = (k : Int) := by omega
    rw [e, if_pos (by omega)]
    have gl : ∀ (q : Nat) (_ : q < z.length), lget l (q : Int) = some (l[q]'(by omega)) := fun q hq => by rw [lget_nat]; exact List.getElem?_eq_getElem (l := l) (by omega)
    have gm : ∀ (q : Nat) (_ : q < z.length), lget m (q : Int) = some (m[q]'(by omega)) := fun q hq => by rw [lget_nat]; exact List.getElem?_eq_getElem (l := m) (by omega)
    have zz : z[k]? = z[i]? ↔ l[k]'(by omega) = l[i]'(by omega) ∧ m[k]'(by omega) = m[i]'(by omega) := by
      have hzz := zip_get (u := l) (v := m) (i := k) (j := i) (by omega) (by omega) (by omega)
      rw [← hz] at hzz
      rw [hzz, List.getElem?_eq_getElem (l := l) (i := k) (by omega), List.getElem?_eq_getElem (l := l) (i := i) (by omega), List.getElem?_eq_getElem (l := m) (i := k) (by omega), List.getElem?_eq_getElem (l := m) (i := i) (by omega)]
      simp
    refine ⟨_, gl i hi, _, gl k (by omega), ?_⟩
    have go : ∀ y : List Int, y.length = z.length → (∀ j : Nat, j < i → y[j]? = some ((frst z j : Nat) : Int)) → ((y[i]? = some (i : Int) ∧ ∀ j : Nat, k ≤ j → j < i → z[j]? ≠ z[i]?) ∨ y[i]? = some ((frst z i : Nat) : Int)) →
        (∀ y' : List Int, y'.length = z.length → (∀ j : Nat, j < i + 1 → y'[j]? = some ((frst z j : Nat) : Int)) → (∀ j : Nat, i < j → y'[j]? = y[j]?) → L1 x0 l m y' ((i + 1 : Nat) : Int) φ) → L3 x0 l m y i k φ := by
      intro y hy hj hs h
      apply L3_step
      rw [wrap_id (by omega) (by omega)]
      exact ih y (by omega) hy hj hs h
    have stay : z[k]? ≠ z[i]? → L3 x0 l m y i k φ := fun hne => by
      refine go y hy hj ?_ h
      rcases hs with ⟨h1, h2⟩ | h1
      · refine .inl ⟨h1, fun j hj1 hj2 => ?_⟩
        by_cases hjk : j = k
        · subst hjk; exact hne
        · exact h2 j (by omega) hj2
      · exact .inr h1
    split
    · rename_i h1
      refine ⟨_, gm i hi, _, gm k (by omega), ?_⟩
      split
      · rename_i h2
        have heq : z[k]? = z[i]? := zz.2 ⟨h1.symm, h2.symm⟩
        obtain ⟨b, hb⟩ : ∃ b, lget y (i : Int) = some b := lget_lt (by omega) (by omega)
        refine ⟨((frst z k : Nat) : Int), by rw [lget_nat]; exact hj k hki, b, hb, ?_⟩
        have hset : lset y (i : Int) ((frst z k : Nat) : Int) = y.set i ((frst z k : Nat) : Int) := by simp [lset]
        rw [hset]
        refine go _ (by simp [hy]) (fun j hji => ?_) (.inr ?_) (fun y' a1 a2 a3 => h y' a1 a2 fun j hji => ?_)
        · rw [List.getElem?_set_ne (by omega)]; exact hj j hji
        · rw [List.getElem?_set_self (by omega), frst_eq heq]
        · rw [a3 j hji, List.getElem?_set_ne (by omega)]
      · rename_i h2
        exact stay fun hh => h2 (zz.1 hh).2.symm
    · rename_i h1
      exact stay fun hh => h1 (zz.1 hh).1.symm
theorem outer {x0 : api_Partition} {l m : List Int} {z : List (Int × Int)} {φ : api_Partition × Int → Prop} (hz : z = l.zip m) (hl : l.length = z.length) (hm : m.length = z.length) (hn : z.length ≤ 1000) (hr : x0.Rows = (z.length : Int)) (hφ : φ (part (frsts z), 0)) : ∀ (n i : Nat) (y : List Int), i + n = z.length → y.length = z.length → (∀ j : Nat, j < i → y[j]? = some ((frst z j : Nat) : Int)) → L1 x0 l m y i φ
  | 0, i, y, hi, hy, hj => by
    apply L1_step
    rw [if_neg (by omega)]
    have : y = frsts z := by
      apply List.ext_getElem?
      intro q
      by_cases hq : q < z.length
      · rw [hj q (by omega)]
        simp [frsts, hq]
      · rw [List.getElem?_eq_none (by omega), List.getElem?_eq_none (by simp [frsts]; omega)]
    subst this
    refine ⟨_, drossref08_group.spec (by omega), ?_⟩
    exact hφ
  | n + 1, i, y, hi, hy, hj => by
    apply L1_step
    rw [if_pos (by omega)]
    obtain ⟨b, hb⟩ : ∃ b, lget y (i : Int) = some b := lget_lt (by omega) (by omega)
    refine ⟨b, hb, ?_⟩
    have hset : lset y (i : Int) (i : Int) = y.set i (i : Int) := by simp [lset]
    rw [hset, wrap_id (by omega) (by omega)]
    refine inner hz hl hm (by omega) hn i _ (Nat.le_refl _) (by simp [hy]) (fun j hji => ?_) (.inl ⟨by rw [List.getElem?_set_self (by omega)], fun j h1 h2 => by omega⟩) (fun y' a1 a2 _ => ?_)
    · rw [List.getElem?_set_ne (by omega)]; exact hj j hji
    · exact outer hz hl hm hn hr hφ n (i + 1) y' (by omega) a1 a2
theorem spec {a b : api_Partition} (ha : Small a) (hb : Small b) : C a b (prodF a b) := by
  obtain ⟨r, h1, h2⟩ := enter a b (fun r => r = prodF a b) (by
    refine ⟨_, drossref08_Valid.spec ha, ?_⟩
    split
    · rename_i va
      refine ⟨_, drossref08_Valid.spec hb, ?_⟩
      split
      · rename_i vb
        split
        · rename_i hr
          have h0 : bothF a b = 0 := by simp [bothF, va, vb, hr]
          obtain ⟨v1, v2, v3⟩ := valid_iff.1 va
          refine ⟨_, drossref08_Labels.spec ha va, _, drossref08_Labels.spec hb vb, by omega, ?_⟩
          have n1 := labF_len (p := a)
          have n2 := labF_len (p := b)
          have hzl : ((labF a).zip (labF b)).length = a.Rows.toNat := by simp [n1, n2, ← hr]
          refine outer (z := (labF a).zip (labF b)) rfl (by omega) (by rw [hzl, n2, hr]) (by omega) (by omega) ?_ a.Rows.toNat 0 _ (by omega) (by simp [hzl]) (fun j hj => by omega)
          rw [prodP_eq h0]
          congr 1
          have va' := prodP_valid h0
          have hal : Alike (frsts ((labF a).zip (labF b))) (zipL (labN a) (labN b)) := by
            have a1 := frsts_alike (z := (labF a).zip (labF b))
            refine ⟨by rw [a1.len, hzl, prodP_len h0], fun i j hi hj => ?_⟩
            rw [a1.iff i j hi hj]
            rw [a1.len, hzl] at hi hj
            have m1 := labN_len (p := a)
            have m2 := labN_len (p := b)
            unfold zipL
            rw [zip_get (by rw [n1, n2, hr]) (by omega) (by omega), zip_get (by rw [m1, m2, hr]) (by omega) (by omega)]
            have q1 := labF_same va (i := (i : Int)) (j := (j : Int)) (by omega) (by omega)
            have q2 := labN_same va (i := (i : Int)) (j := (j : Int)) (by omega) (by omega)
            have q3 := labF_same vb (i := (i : Int)) (j := (j : Int)) (by omega) (by omega)
            have q4 := labN_same vb (i := (i : Int)) (j := (j : Int)) (by omega) (by omega)
            simp only [lget_nat] at q1 q2 q3 q4
            rw [q1, q2, q3, q4]
          unfold prodP part
          rw [grpF_alike hal, hal.len]
        · rename_i hr
          simp [prodF, bothF, va, vb, hr]
      · rename_i vb
        simp [prodF, bothF, va, vb]
    · rename_i va
      simp [prodF, bothF, va])
  rw [← h1]; exact h2
end drossref08_Product
end Go.Own

namespace Go.Own
def Bad1 (l c : List Int) (i : Int) : Prop := lab1 l i ≠ lab1 l (c.headD 0)
structure In1 (l c : List Int) : Prop where
  ne : c ≠ []
  has : ∀ i ∈ c, ∃ a, lget l i = some a
theorem partition_Refines_1_1.spec {l c : List Int} (h : In1 l c) {i : Int} (hi : i ∈ c) : ∃ b, partition_Refines_1_1.C i l c b ∧ (b = true ↔ Bad1 l c i) := by
  obtain ⟨a, ha⟩ := h.has i hi
  obtain ⟨h0, hh0⟩ : ∃ h0, c[0]? = some h0 := by
    match c, h.ne with
    | x :: t, _ => exact ⟨x, rfl⟩
  have hd : c.headD 0 = h0 := by
    match c, hh0 with
    | x :: t, e => simpa using e
  obtain ⟨b, hb⟩ := h.has h0 (List.mem_of_getElem? hh0)
  obtain ⟨r, h1, h2⟩ := partition_Refines_1_1.enter i l c (fun r => (r = true ↔ Bad1 l c i)) (by
    refine ⟨a, ha, h0, by have := lget_nat (l := c) (k := 0); rw [hh0] at this; exact this, b, hb, ?_⟩
    unfold Bad1
    rw [hd, lab1_of ha, lab1_of hb]
    simp)
  exact ⟨r, h2, h1⟩
namespace slices_IndexFunc_sint_int_partition_Refines_1_1
theorem loop {l c : List Int} (h : In1 l c) (hn : c.length < Big) : ∀ (r : List Int) (k : Nat), c.drop k = r → (∀ i ∈ c.take k, ¬ Bad1 l c i) → L1 c l c k (fun r => (0 ≤ r ↔ ∃ i ∈ c, Bad1 l c i))
  | [], k, hd, hb => by
    apply L1_step
    have hk := drop_ge hd
    rw [if_neg (by omega)]
    rw [List.take_of_length_le hk] at hb
    constructor
    · intro h; omega
    · rintro ⟨i, h1, h2⟩; exact absurd h2 (hb i h1)
  | i :: r, k, hd, hb => by
    apply L1_step
    have hk := drop_lt hd
    have hi := List.mem_of_getElem? (drop_get hd)
    rw [if_pos (by omega)]
    obtain ⟨b, h1, h2⟩ := partition_Refines_1_1.spec h hi
    refine ⟨i, lget_drop hd, b, h1, ?_⟩
    split
    · rename_i hbt
      exact ⟨fun _ => ⟨i, hi, h2.1 hbt⟩, fun _ => by omega⟩
    · rename_i hbf
      rw [wrap_succ (by unfold Big at hn; omega)]
      refine loop h hn r (k + 1) (drop_next hd) fun j hj => ?_
      rw [take_succ_get (drop_get hd)] at hj
      rcases List.mem_append.1 hj with hj | hj
      · exact hb j hj
      · simp at hj; subst hj; exact fun hh => hbf (h2.2 hh)
theorem spec {l c : List Int} (h : In1 l c) (hn : c.length < Big) : ∃ r, C c l c r ∧ (0 ≤ r ↔ ∃ i ∈ c, Bad1 l c i) := by
  obtain ⟨r, h1, h2⟩ := enter c l c (fun r => (0 ≤ r ↔ ∃ i ∈ c, Bad1 l c i)) (loop h hn c 0 rfl (by simp))
  exact ⟨r, h2, h1⟩
end slices_IndexFunc_sint_int_partition_Refines_1_1
theorem slices_ContainsFunc_sint_int_partition_Refines_1_1.spec {l c : List Int} (h : In1 l c) (hn : c.length < Big) : ∃ b, slices_ContainsFunc_sint_int_partition_Refines_1_1.C c l c b ∧ (b = true ↔ ∃ i ∈ c, Bad1 l c i) := by
  obtain ⟨r, h1, h2⟩ := slices_ContainsFunc_sint_int_partition_Refines_1_1.enter c l c (fun b => (b = true ↔ ∃ i ∈ c, Bad1 l c i)) (by
    obtain ⟨q, q1, q2⟩ := slices_IndexFunc_sint_int_partition_Refines_1_1.spec h hn
    refine ⟨q, q1, ?_⟩
    rw [← q2]; simp)
  exact ⟨r, h2, h1⟩
theorem partition_Refines_1.spec {l c : List Int} (h : In1 l c) (hn : c.length < Big) : ∃ b, partition_Refines_1.C c l b ∧ (b = true ↔ ∃ i ∈ c, Bad1 l c i) := by
  obtain ⟨r, h1, h2⟩ := partition_Refines_1.enter c l (fun b => (b = true ↔ ∃ i ∈ c, Bad1 l c i)) (slices_ContainsFunc_sint_int_partition_Refines_1_1.spec h hn)
  exact ⟨r, h2, h1⟩
def Bad2 (l : List Int) (c : List Int) : Prop := ∃ i ∈ c, Bad1 l c i
namespace slices_IndexFunc_ssint_sint_partition_Refines_1
theorem loop {l : List Int} {cs : List (List Int)} (h : ∀ c ∈ cs, In1 l c) (hn : cs.length < Big) (hn2 : ∀ c ∈ cs, c.length < Big) : ∀ (r : List (List Int)) (k : Nat), cs.drop k = r → (∀ c ∈ cs.take k, ¬ Bad2 l c) → L1 cs l k (fun r => (0 ≤ r ↔ ∃ c ∈ cs, Bad2 l c))
  | [], k, hd, hb => by
    apply L1_step
    have hk := drop_ge hd
    rw [if_neg (by omega)]
    rw [List.take_of_length_le hk] at hb
    constructor
    · intro h; omega
    · rintro ⟨i, h1, h2⟩; exact absurd h2 (hb i h1)
  | c :: r, k, hd, hb => by
    apply L1_step
    have hk := drop_lt hd
    have hc := List.mem_of_getElem? (drop_get hd)
    rw [if_pos (by omega)]
    obtain ⟨b, h1, h2⟩ := partition_Refines_1.spec (h c hc) (hn2 c hc)
    refine ⟨c, lget_drop hd, b, h1, ?_⟩
    split
    · rename_i hbt
      exact ⟨fun _ => ⟨c, hc, h2.1 hbt⟩, fun _ => by omega⟩
    · rename_i hbf
      rw [wrap_succ (by unfold Big at hn; omega)]
      refine loop h hn hn2 r (k + 1) (drop_next hd) fun j hj => ?_
      rw [take_succ_get (drop_get hd)] at hj
      rcases List.mem_append.1 hj with hj | hj
      · exact hb j hj
      · simp at hj; subst hj; exact fun hh => hbf (h2.2 hh)
theorem spec {l : List Int} {cs : List (List Int)} (h : ∀ c ∈ cs, In1 l c) (hn : cs.length < Big) (hn2 : ∀ c ∈ cs, c.length < Big) : ∃ r, C cs l r ∧ (0 ≤ r ↔ ∃ c ∈ cs, Bad2 l c) := by
  obtain ⟨r, h1, h2⟩ := enter cs l (fun r => (0 ≤ r ↔ ∃ c ∈ cs, Bad2 l c)) (loop h hn hn2 cs 0 rfl (by simp))
  exact ⟨r, h2, h1⟩
end slices_IndexFunc_ssint_sint_partition_Refines_1
theorem slices_ContainsFunc_ssint_sint_partition_Refines_1.spec {l : List Int} {cs : List (List Int)} (h : ∀ c ∈ cs, In1 l c) (hn : cs.length < Big) (hn2 : ∀ c ∈ cs, c.length < Big) : ∃ b, slices_ContainsFunc_ssint_sint_partition_Refines_1.C cs l b ∧ (b = true ↔ ∃ c ∈ cs, Bad2 l c) := by
  obtain ⟨r, h1, h2⟩ := slices_ContainsFunc_ssint_sint_partition_Refines_1.enter cs l (fun b => (b = true ↔ ∃ c ∈ cs, Bad2 l c)) (by
    obtain ⟨q, q1, q2⟩ := slices_IndexFunc_ssint_sint_partition_Refines_1.spec h hn hn2
    refine ⟨q, q1, ?_⟩
    rw [← q2]; simp)
  exact ⟨r, h2, h1⟩
def RefP (a b : api_Partition) : Prop := bothF a b = 0 ∧ ∀ i j, 0 ≤ i ∧ i < a.Rows → 0 ≤ j ∧ j < a.Rows → Same a i j → Same b i j
theorem partition_Refines.spec {a b : api_Partition} (ha : Small a) (hb : Small b) : ∃ r, partition_Refines.C a b r ∧ (r = true ↔ RefP a b) := by
  obtain ⟨r, h1, h2⟩ := partition_Refines.enter a b (fun r => (r = true ↔ RefP a b)) (by
    refine ⟨_, partition_both.spec ha hb, ?_⟩
    split
    · rename_i h0
      obtain ⟨va, vb, hr⟩ := bothF_ok h0
      obtain ⟨v1, v2, v3⟩ := valid_iff.1 va
      have hin : ∀ c ∈ a.Classes, In1 (labN b) c := fun c hc => ⟨fun hn => by have := v3.two c hc; rw [hn] at this; simp at this, fun i hi => lget_lt (v3.inn c hc i hi).1 (by have := (v3.inn c hc i hi).2; rw [labN_len]; omega)⟩
      obtain ⟨q, q1, q2⟩ := slices_ContainsFunc_ssint_sint_partition_Refines_1.spec hin ha.1 ha.2
      refine ⟨_, partition_labels.spec hb vb, q, q1, ?_⟩
      have key : (∃ c ∈ a.Classes, Bad2 (labN b) c) ↔ ¬ RefP a b := by
        have sm : ∀ {i j : Int}, 0 ≤ i ∧ i < a.Rows → 0 ≤ j ∧ j < a.Rows → (lab1 (labN b) i = lab1 (labN b) j ↔ Same b i j) := fun hi hj => by
          rw [lab1_iff (by rw [labN_len]; omega) (by rw [labN_len]; omega), labN_same vb (by omega) (by omega)]
        constructor
        · rintro ⟨c, hc, i, hi, hbad⟩ hR
          have m1 := v3.inn c hc i hi
          have hm := headD_mem (v3.two c hc)
          have m2 := v3.inn c hc _ hm
          exact hbad ((sm m1 m2).2 (hR.2 i _ m1 m2 (.inr ⟨c, hc, hi, hm⟩)))
        · intro hR
          apply Classical.byContradiction
          intro hno
          apply hR
          refine ⟨h0, fun i j hi hj hs => ?_⟩
          rcases hs with rfl | ⟨c, hc, h1, h2⟩
          · exact .inl rfl
          · have e : ∀ k ∈ c, lab1 (labN b) k = lab1 (labN b) (c.headD 0) := fun k hk => Classical.byContradiction fun hne => hno ⟨c, hc, k, hk, hne⟩
            exact (sm hi hj).1 ((e i h1).trans (e j h2).symm)
      cases q with
      | true => simp only [Bool.not_true, Bool.false_eq_true, false_iff]; exact key.1 (q2.1 rfl)
      | false =>
        simp only [Bool.not_false, true_iff]
        exact Classical.byContradiction fun hn => by have := q2.2 (key.2 hn); cases this
    · rename_i h0
      simp only [Bool.false_eq_true, false_iff]
      exact fun hR => h0 hR.1)
  exact ⟨r, h2, h1⟩
namespace drossref08_Refines
theorem inner {x0 : api_Partition} {l m : List Int} {φ : Bool → Prop} {i : Nat} (hl : (l.length : Int) = x0.Rows) (hm : (m.length : Int) = x0.Rows) (hi : (i : Int) < x0.Rows) (hn : x0.Rows ≤ 1000) (hno : (∃ k : Nat, k < i ∧ l[i]? = l[k]? ∧ m[i]? ≠ m[k]?) → φ false) (hyes : (∀ k : Nat, k < i → l[i]? = l[k]? → m[i]? = m[k]?) → L1 x0 l m ((i + 1 : Nat) : Int) φ) : ∀ (n k : Nat), k + n = i → (∀ q : Nat, q < k → l[i]? = l[q]? → m[i]? = m[q]?) → L2 x0 l m i k φ
  | 0, k, hk, hq => by
    apply L2_step
    rw [if_neg (by omega), wrap_succ (by omega)]
    exact hyes fun q h1 => hq q (by omega)
  | n + 1, k, hk, hq => by
    apply L2_step
    rw [if_pos (by omega)]
    have li := List.getElem?_eq_getElem (l := l) (i := i) (by omega)
    have lk := List.getElem?_eq_getElem (l := l) (i := k) (by omega)
    have mi := List.getElem?_eq_getElem (l := m) (i := i) (by omega)
    have mk := List.getElem?_eq_getElem (l := m) (i := k) (by omega)
    refine ⟨_, by rw [lget_nat]; exact li, _, by rw [lget_nat]; exact lk, ?_⟩
    have go : (l[i]? = l[k]? → m[i]? = m[k]?) → L3 x0 l m i k φ := fun hh => by
      apply L3_step
      rw [wrap_succ (by omega)]
      refine inner hl hm hi hn hno hyes n (k + 1) (by omega) fun q hq1 => ?_
      by_cases hqk : q = k
      · subst hqk; exact hh
      · exact hq q (by omega)
    split
    · rename_i e1
      refine ⟨_, by rw [lget_nat]; exact mi, _, by rw [lget_nat]; exact mk, ?_⟩
      split
      · rename_i e2
        exact go fun _ => by rw [mi, mk, e2]
      · rename_i e2
        refine hno ⟨k, by omega, by rw [li, lk, e1], fun h => e2 ?_⟩
        rw [mi, mk] at h; exact Option.some.inj h
    · rename_i e1
      exact go fun h => by rw [li, lk] at h; exact absurd (Option.some.inj h) e1
theorem outer {x0 : api_Partition} {l m : List Int} {φ : Bool → Prop} (hl : (l.length : Int) = x0.Rows) (hm : (m.length : Int) = x0.Rows) (hn : x0.Rows ≤ 1000) (hno : (∃ i k : Nat, i < l.length ∧ k < i ∧ l[i]? = l[k]? ∧ m[i]? ≠ m[k]?) → φ false) (hyes : (∀ i k : Nat, i < l.length → k < i → l[i]? = l[k]? → m[i]? = m[k]?) → φ true) : ∀ (n i : Nat), i + n = l.length → (∀ q k : Nat, q < i → k < q → l[q]? = l[k]? → m[q]? = m[k]?) → L1 x0 l m i φ
  | 0, i, hi, hq => by
    apply L1_step
    rw [if_neg (by omega)]
    exact hyes fun q k h1 h2 => hq q k (by omega) h2
  | n + 1, i, hi, hq => by
    apply L1_step
    rw [if_pos (by omega)]
    refine inner hl hm (by omega) hn (fun ⟨k, h1, h2, h3⟩ => hno ⟨i, k, by omega, h1, h2, h3⟩) (fun hh => ?_) i 0 (by omega) (fun q hq => by omega)
    refine outer hl hm hn hno hyes n (i + 1) (by omega) fun q k h1 h2 => ?_
    by_cases hqi : q = i
    · subst hqi; exact hh k h2
    · exact hq q k (by omega) h2
theorem spec {a b : api_Partition} (ha : Small a) (hb : Small b) : ∃ r, C a b r ∧ (r = true ↔ RefP a b) := by
  obtain ⟨r, h1, h2⟩ := enter a b (fun r => (r = true ↔ RefP a b)) (by
    refine ⟨_, drossref08_Valid.spec ha, ?_⟩
    split
    · rename_i va
      refine ⟨_, drossref08_Valid.spec hb, ?_⟩
      split
      · rename_i vb
        split
        · rename_i hr
          have h0 : bothF a b = 0 := by simp [bothF, va, vb, hr]
          obtain ⟨v1, v2, v3⟩ := valid_iff.1 va
          have n1 := labF_len (p := a)
          have n2 := labF_len (p := b)
          refine ⟨_, drossref08_Labels.spec ha va, _, drossref08_Labels.spec hb vb, ?_⟩
          have sa : ∀ i k : Nat, i < a.Rows.toNat → k < a.Rows.toNat → ((labF a)[i]? = (labF a)[k]? ↔ Same a i k) := fun i k hi hk => by
            have := labF_same va (i := (i : Int)) (j := (k : Int)) (by omega) (by omega)
            simpa only [lget_nat] using this
          have sb : ∀ i k : Nat, i < a.Rows.toNat → k < a.Rows.toNat → ((labF b)[i]? = (labF b)[k]? ↔ Same b i k) := fun i k hi hk => by
            have := labF_same vb (i := (i : Int)) (j := (k : Int)) (by omega) (by omega)
            simpa only [lget_nat] using this
          have sym : ∀ {p : api_Partition} {i j : Int}, Same p i j → Same p j i := by
            rintro p i j (rfl | ⟨c, hc, h1, h2⟩)
            · exact .inl rfl
            · exact .inr ⟨c, hc, h2, h1⟩
          refine outer (by rw [n1]; omega) (by rw [n2]; omega) v2 ?_ ?_ (labF a).length 0 (by omega) (fun q k h => by omega)
          · rintro ⟨i, k, hi, hk, e1, e2⟩
            rw [n1] at hi
            simp only [Bool.false_eq_true, false_iff]
            intro hR
            exact e2 ((sb i k hi (by omega)).2 (hR.2 i k (by omega) (by omega) ((sa i k hi (by omega)).1 e1)))
          · intro hall
            simp only [true_iff]
            refine ⟨h0, fun i j hi hj hs => ?_⟩
            obtain ⟨i, rfl⟩ := Int.eq_ofNat_of_zero_le hi.1
            obtain ⟨j, rfl⟩ := Int.eq_ofNat_of_zero_le hj.1
            have hi' : ((i : Nat) : Int) < a.Rows := hi.2
            have hj' : ((j : Nat) : Int) < a.Rows := hj.2
            rcases Nat.lt_trichotomy i j with h1 | h1 | h1
            · exact sym ((sb j i (by omega) (by omega)).1 (hall j i (by rw [n1]; omega) h1 ((sa j i (by omega) (by omega)).2 (sym hs))))
            · subst h1; exact .inl rfl
            · exact (sb i j (by omega) (by omega)).1 (hall i j (by rw [n1]; omega) h1 ((sa i j (by omega) (by omega)).2 hs))
        · rename_i hr
          simp only [Bool.false_eq_true, false_iff]
          exact fun hR => by have := (bothF_ok hR.1).2.2; exact hr this
      · rename_i vb
        simp only [Bool.false_eq_true, false_iff]
        exact fun hR => vb (bothF_ok hR.1).2.1
    · rename_i va
      simp only [Bool.false_eq_true, false_iff]
      exact fun hR => va (bothF_ok hR.1).1)
  exact ⟨r, h2, h1⟩
end drossref08_Refines
end Go.Own

namespace Go.Own
open Go.Proofs D
set_option maxRecDepth 100000
set_option maxHeartbeats 4000000
namespace partition_Removal
noncomputable def B : Code := (Tryd.f23.body).getD .skip
def W : List Nat := [0, 1, 2, 3, 4, 5, 6, 7, 8, 10, 11, 12, 14, 19, 24, 25, 26, 27, 31, 32, 33, 34]
def res (r : Int × Int) : D × List D := (.tup [.lit (.int .i64 r.1), .lit (.int .i64 r.2)], [])
def C (x0 : api_Partition) (x1 : api_Partition) (r : Int × Int) : Prop := Ret env 23 [.agg [.lit (.int .i64 x0.Rows), .sl (x0.Classes.map (eSl (eI .i64)))], .agg [.lit (.int .i64 x1.Rows), .sl (x1.Classes.map (eSl (eI .i64)))]] (res r).1 (res r).2
def L1 (x0 : api_Partition) (r2 : List Int) (y8_L1 : Int) (y26_L1 : Int) (φ : Int × Int → Prop) : Prop := Pt env 23 W B [1, 1, 1, 1, 0, 1, 0] [(0, .agg [.lit (.int .i64 x0.Rows), .sl (x0.Classes.map (eSl (eI .i64)))]), (2, .box [.lit (.int .i64 x0.Rows), .sl (x0.Classes.map (eSl (eI .i64)))]), (7, .own (r2.map (eI .i64))), (8, .lit (.int .i64 y8_L1)), (24, .sl (x0.Classes.map (eSl (eI .i64)))), (25, .lit (.int .i64 ((x0.Classes.length : Int)))), (26, .lit (.int .i64 y26_L1))] (Lv env 23 Tryd.f23 2 res φ)
def L2 (x0 : api_Partition) (r2 : List Int) (y8_L2 : Int) (a3 : List Int) (y11_L2 : List (Int × Int)) (y12_L2 : Int) (y26_L2 : Int) (y33_L2 : Int) (φ : Int × Int → Prop) : Prop := Pt env 23 W B [1, 1, 1, 1, 0, 1, 0, 0, 1, 1, 0, 0, 1, 1, 1, 0, 1, 0] [(0, .agg [.lit (.int .i64 x0.Rows), .sl (x0.Classes.map (eSl (eI .i64)))]), (2, .box [.lit (.int .i64 x0.Rows), .sl (x0.Classes.map (eSl (eI .i64)))]), (7, .own (r2.map (eI .i64))), (8, .lit (.int .i64 y8_L2)), (10, .sl (a3.map (eI .i64))), (11, (eMap (Value.int .i64) (fun (x : Int) => D.lit (.int .i64 x)) y11_L2)), (12, .lit (.int .i64 y12_L2)), (24, .sl (x0.Classes.map (eSl (eI .i64)))), (25, .lit (.int .i64 ((x0.Classes.length : Int)))), (26, .lit (.int .i64 y26_L2)), (31, .sl (a3.map (eI .i64))), (32, .lit (.int .i64 ((a3.length : Int)))), (33, .lit (.int .i64 y33_L2))] (Lv env 23 Tryd.f23 2 res φ)
theorem L1_step (x0 : api_Partition) (r2 : List Int) (y8_L1 : Int) (y26_L1 : Int) (φ : Int × Int → Prop) (h :
    (if y26_L1 < (x0.Classes.length : Int) then
      ∃ a3, lget x0.Classes y26_L1 = some a3 ∧
      partition_Removal.L2 x0 r2 y8_L1 a3 ([]) 0 y26_L1 0 φ
    else
      φ ((y8_L1, 0)))) : L1 x0 r2 y8_L1 y26_L1 φ :=
 mIn <|
 mAsk 2 h dT dF (fun h =>
 mIx 4 (eSl (eI .i64)) h fun a3 h4 h =>
 mLen 12 (eI .i64) a3 <|
 mFin 2 h) fun h =>
 mRet 8 h
theorem L2_step (x0 : api_Partition) (r2 : List Int) (y8_L2 : Int) (a3 : List Int) (y11_L2 : List (Int × Int)) (y12_L2 : Int) (y26_L2 : Int) (y33_L2 : Int) (φ : Int × Int → Prop) (h :
    (if y33_L2 < (a3.length : Int) then
      ∃ a5, lget a3 y33_L2 = some a5 ∧
      ∃ a7, lget r2 a5 = some a7 ∧
      partition_Removal.L2 x0 r2 y8_L2 a3 ((mset a7 (IntKind.wrap .i64 ((mgetD a7 y11_L2 0) + 1)) y11_L2)) ((imax y12_L2 (mgetD a7 (mset a7 (IntKind.wrap .i64 ((mgetD a7 y11_L2 0) + 1)) y11_L2) 0))) y26_L2 ((IntKind.wrap .i64 (y33_L2 + 1))) φ
    else
      partition_Removal.L1 x0 r2 ((IntKind.wrap .i64 (y8_L2 + (IntKind.wrap .i64 ((a3.length : Int) - y12_L2))))) ((IntKind.wrap .i64 (y26_L2 + 1))) φ)) : L2 x0 r2 y8_L2 a3 y11_L2 y12_L2 y26_L2 y33_L2 φ :=
 mIn <|
 mAsk 2 h dT dF (fun h =>
 mIx 4 (eI .i64) h fun a5 h6 h =>
 mIy 7 (eI .i64) h fun a7 h8 h =>
 mLd 0 (eI .i64) h8 <|
 mVl 0 (val_lookup_f kb_int (fun _ => by kernel_rfl) (ek := (Value.int .i64)) (ev := (fun (x : Int) => D.lit (.int .i64 x))) (t := 77) (x := (.tmp 37)) (kx := (.tmp 41)) (s := 11) (ps := []) (l := y11_L2) (kd := .lit (.int .i64 a7)) (kv := a7) (kt := 3) (vt := 3) (v0 := 0) (by kernel_rfl) (by kernel_rfl) (by kernel_rfl) (by kernel_rfl) (by kernel_rfl) (by kernel_rfl) (by kernel_rfl) (by kernel_rfl)) <|
 mOp 1 (op_mapUpdate kb_int (fun _ => by kernel_rfl) (ek := (Value.int .i64)) (ev := (fun (x : Int) => D.lit (.int .i64 x))) (t := 77) (mx := (.tmp 37)) (kx := (.tmp 41)) (vx := (.tmp 43)) (s := 11) (ps := []) (l := y11_L2) (kd := .lit (.int .i64 a7)) (kv := a7) (kt := 3) (vt := 3) (v := (IntKind.wrap .i64 ((mgetD a7 y11_L2 0) + 1))) (d := .lit (.int .i64 ((IntKind.wrap .i64 ((mgetD a7 y11_L2 0) + 1))))) (by kernel_rfl) (by kernel_rfl) (by kernel_rfl) (by kernel_rfl) (by kernel_rfl) (by kernel_rfl) (by kernel_rfl) (by kernel_rfl) (by kernel_rfl) (setG_eq (by kernel_rfl))) <|
 mIyf 6 (eI .i64) h8 <|
 mLd 0 (eI .i64) h8 <|
 mVl 0 (val_lookup_f kb_int (fun _ => by kernel_rfl) (ek := (Value.int .i64)) (ev := (fun (x : Int) => D.lit (.int .i64 x))) (t := 77) (x := (.tmp 45)) (kx := (.tmp 49)) (s := 11) (ps := []) (l := (mset a7 (IntKind.wrap .i64 ((mgetD a7 y11_L2 0) + 1)) y11_L2)) (kd := .lit (.int .i64 a7)) (kv := a7) (kt := 3) (vt := 3) (v0 := 0) (by kernel_rfl) (by kernel_rfl) (by kernel_rfl) (by kernel_rfl) (by kernel_rfl) (by kernel_rfl) (by kernel_rfl) (by kernel_rfl)) <|
 mFin 7 h) fun h =>
 mLen 6 (eI .i64) a3 <|
 mFin 9 h
theorem enter (x0 : api_Partition) (x1 : api_Partition) (φ : Int × Int → Prop) (h :
    ∃ r1 : Int, partition_both.C x0 x1 r1 ∧
    (if r1 = 0 then
      ∃ r2 : List Int, partition_labels.C x1 r2 ∧
      partition_Removal.L1 x0 r2 0 0 φ
    else
      φ ((0, r1)))) : ∃ r, φ r ∧ C x0 x1 r :=
 mEnt (fd := Tryd.f23) (body := B) (V := W) (res := res) <|
 mCal 9 h (fun _ h => h) fun r1 _ h =>
 mAskN 4 h bne_t bne_f (fun h =>
 mRet 7 h) fun h =>
 mCal 5 h (fun _ h => h) (hf := (fun _ => clF_flat (flat_ow (e := (eI .i64)) (fun _ => rfl)) rfl)) fun r2 _ h =>
 mLen 8 (eSl (eI .i64)) x0.Classes <|
 mFin 2 h
end partition_Removal
end Go.Own

namespace Go.Own
open Go.Proofs D
set_option maxRecDepth 100000
set_option maxHeartbeats 4000000
namespace drossref08_Removal
noncomputable def B : Code := (Tryd.f24.body).getD .skip
def W : List Nat := [0, 1, 2, 3, 4, 5, 6, 7, 8, 9, 10, 11, 12, 13, 21, 26, 33, 44, 50, 67]
def res (r : Int × Int) : D × List D := (.tup [.lit (.int .i64 r.1), .lit (.int .i64 r.2)], [])
def C (x0 : api_Partition) (x1 : api_Partition) (r : Int × Int) : Prop := Ret env 24 [.agg [.lit (.int .i64 x0.Rows), .sl (x0.Classes.map (eSl (eI .i64)))], .agg [.lit (.int .i64 x1.Rows), .sl (x1.Classes.map (eSl (eI .i64)))]] (res r).1 (res r).2
def L1 (x0 : api_Partition) (r3 : List Int) (y7_L1 : Int) (y8_L1 : Int) (φ : Int × Int → Prop) : Prop := Pt env 24 W B [1, 1, 1, 1, 1, 0, 1, 0] [(0, .agg [.lit (.int .i64 x0.Rows), .sl (x0.Classes.map (eSl (eI .i64)))]), (2, .box [.lit (.int .i64 x0.Rows), .sl (x0.Classes.map (eSl (eI .i64)))]), (6, .own (r3.map (eI .i64))), (7, .lit (.int .i64 y7_L1)), (8, .lit (.int .i64 y8_L1))] (Lv env 24 Tryd.f24 2 res φ)
def L2 (x0 : api_Partition) (r3 : List Int) (y7_L2 : Int) (y8_L2 : Int) (a4 : List Int) (y10_L2 : Int) (y11_L2 : Int) (φ : Int × Int → Prop) : Prop := Pt env 24 W B [1, 1, 1, 1, 1, 0, 1, 0, 0, 1, 0, 0, 1, 1, 0, 1, 0] [(0, .agg [.lit (.int .i64 x0.Rows), .sl (x0.Classes.map (eSl (eI .i64)))]), (2, .box [.lit (.int .i64 x0.Rows), .sl (x0.Classes.map (eSl (eI .i64)))]), (6, .own (r3.map (eI .i64))), (7, .lit (.int .i64 y7_L2)), (8, .lit (.int .i64 y8_L2)), (9, .sl (a4.map (eI .i64))), (10, .lit (.int .i64 y10_L2)), (11, .lit (.int .i64 y11_L2))] (Lv env 24 Tryd.f24 2 res φ)
def L3 (x0 : api_Partition) (r3 : List Int) (y7_L3 : Int) (y8_L3 : Int) (a4 : List Int) (y10_L3 : Int) (y11_L3 : Int) (y12_L3 : Int) (y13_L3 : Int) (φ : Int × Int → Prop) : Prop := Pt env 24 W B [1, 1, 1, 1, 1, 0, 1, 0, 0, 1, 0, 0, 1, 1, 0, 1, 0, 0, 1, 0, 0, 1, 0, 1, 0] [(0, .agg [.lit (.int .i64 x0.Rows), .sl (x0.Classes.map (eSl (eI .i64)))]), (2, .box [.lit (.int .i64 x0.Rows), .sl (x0.Classes.map (eSl (eI .i64)))]), (6, .own (r3.map (eI .i64))), (7, .lit (.int .i64 y7_L3)), (8, .lit (.int .i64 y8_L3)), (9, .sl (a4.map (eI .i64))), (10, .lit (.int .i64 y10_L3)), (11, .lit (.int .i64 y11_L3)), (12, .lit (.int .i64 y12_L3)), (13, .lit (.int .i64 y13_L3))] (Lv env 24 Tryd.f24 2 res φ)
def L4 (x0 : api_Partition) (r3 : List Int) (y7_L3 : Int) (y8_L3 : Int) (a4 : List Int) (y10_L4 : Int) (y11_L4 : Int) (y12_L4 : Int) (y13_L3 : Int) (φ : Int × Int → Prop) : Prop := Pt env 24 W B [1, 1, 1, 1, 1, 0, 1, 0, 0, 1, 0, 0, 1, 1, 0, 1, 0, 0, 1, 0, 0, 1, 0, 1, 0, 0, 1, 1] [(0, .agg [.lit (.int .i64 x0.Rows), .sl (x0.Classes.map (eSl (eI .i64)))]), (2, .box [.lit (.int .i64 x0.Rows), .sl (x0.Classes.map (eSl (eI .i64)))]), (6, .own (r3.map (eI .i64))), (7, .lit (.int .i64 y7_L3)), (8, .lit (.int .i64 y8_L3)), (9, .sl (a4.map (eI .i64))), (10, .lit (.int .i64 y10_L4)), (11, .lit (.int .i64 y11_L4)), (12, .lit (.int .i64 y12_L4)), (13, .lit (.int .i64 y13_L3))] (Lv env 24 Tryd.f24 2 res φ)
theorem L1_step (x0 : api_Partition) (r3 : List Int) (y7_L1 : Int) (y8_L1 : Int) (φ : Int × Int → Prop) (h :
    (if y8_L1 < (x0.Classes.length : Int) then
      ∃ a4, lget x0.Classes y8_L1 = some a4 ∧
      drossref08_Removal.L2 x0 r3 y7_L1 y8_L1 a4 0 0 φ
    else
      φ ((y7_L1, 0)))) : L1 x0 r3 y7_L1 y8_L1 φ :=
 mIn <|
 mLen 5 (eSl (eI .i64)) x0.Classes <|
 mAsk 0 h dT dF (fun h =>
 mIx 7 (eSl (eI .i64)) h fun a4 h5 h =>
 mFin 9 h) fun h =>
 mRet 8 h
theorem L2_step (x0 : api_Partition) (r3 : List Int) (y7_L2 : Int) (y8_L2 : Int) (a4 : List Int) (y10_L2 : Int) (y11_L2 : Int) (φ : Int × Int → Prop) (h :
    (if y11_L2 < (a4.length : Int) then
      drossref08_Removal.L3 x0 r3 y7_L2 y8_L2 a4 y10_L2 y11_L2 0 0 φ
    else
      drossref08_Removal.L1 x0 r3 ((IntKind.wrap .i64 ((IntKind.wrap .i64 (y7_L2 + (a4.length : Int))) - y10_L2))) ((IntKind.wrap .i64 (y8_L2 + 1))) φ)) : L2 x0 r3 y7_L2 y8_L2 a4 y10_L2 y11_L2 φ :=
 mIn <|
 mLen 4 (eI .i64) a4 <|
 mAsk 0 h dT dF (fun h =>
 mFin 9 h) fun h =>
 mLen 6 (eI .i64) a4 <|
 mFin 10 h
theorem L3_step (x0 : api_Partition) (r3 : List Int) (y7_L3 : Int) (y8_L3 : Int) (a4 : List Int) (y10_L3 : Int) (y11_L3 : Int) (y12_L3 : Int) (y13_L3 : Int) (φ : Int × Int → Prop) (h :
    (if y13_L3 < (a4.length : Int) then
      ∃ a6, lget a4 y13_L3 = some a6 ∧
      ∃ a8, lget r3 a6 = some a8 ∧
      ∃ a10, lget a4 y11_L3 = some a10 ∧
      ∃ a12, lget r3 a10 = some a12 ∧
      (if a8 = a12 then
        drossref08_Removal.L4 x0 r3 y7_L3 y8_L3 a4 y10_L3 y11_L3 ((IntKind.wrap .i64 (y12_L3 + 1))) y13_L3 φ
      else
        drossref08_Removal.L4 x0 r3 y7_L3 y8_L3 a4 y10_L3 y11_L3 y12_L3 y13_L3 φ)
    else
      drossref08_Removal.L2 x0 r3 y7_L3 y8_L3 a4 ((imax y10_L3 y12_L3)) ((IntKind.wrap .i64 (y11_L3 + 1))) φ)) : L3 x0 r3 y7_L3 y8_L3 a4 y10_L3 y11_L3 y12_L3 y13_L3 φ :=
 mIn <|
 mLen 4 (eI .i64) a4 <|
 mAsk 0 h dT dF (fun h =>
 mIx 7 (eI .i64) h fun a6 h7 h =>
 mIy 1 (eI .i64) h fun a8 h9 h =>
 mLd 0 (eI .i64) h9 <|
 mIx 3 (eI .i64) h fun a10 h11 h =>
 mIy 1 (eI .i64) h fun a12 h13 h =>
 mLd 0 (eI .i64) h13 <|
 mAsk 0 h beq_t beq_f (fun h =>
 mFin 7 h) fun h =>
 mFin 3 h) fun h =>
 mFin 14 h
theorem L4_step (x0 : api_Partition) (r3 : List Int) (y7_L3 : Int) (y8_L3 : Int) (a4 : List Int) (y10_L4 : Int) (y11_L4 : Int) (y12_L4 : Int) (y13_L3 : Int) (φ : Int × Int → Prop) (h :
    drossref08_Removal.L3 x0 r3 y7_L3 y8_L3 a4 y10_L4 y11_L4 y12_L4 ((IntKind.wrap .i64 (y13_L3 + 1))) φ) : L4 x0 r3 y7_L3 y8_L3 a4 y10_L4 y11_L4 y12_L4 y13_L3 φ :=
 mIn <|
 mFin 5 h
theorem enter (x0 : api_Partition) (x1 : api_Partition) (φ : Int × Int → Prop) (h :
    ∃ r1 : Bool, drossref08_Valid.C x0 r1 ∧
    (if r1 = true then
      ∃ r2 : Bool, drossref08_Valid.C x1 r2 ∧
      (if r2 = true then
        (if x0.Rows = x1.Rows then
          ∃ r3 : List Int, drossref08_Labels.C x1 r3 ∧
          drossref08_Removal.L1 x0 r3 0 0 φ
        else
          φ ((0, 6)))
      else
        φ ((0, 1)))
    else
      φ ((0, 1)))) : ∃ r, φ r ∧ C x0 x1 r :=
 mEnt (fd := Tryd.f24) (body := B) (V := W) (res := res) <|
 mCalB 8 h (fun _ h => h) (fun _ h =>
 mCalB 3 h (fun _ h => h) (fun _ h =>
 mAskN 10 h bne_t bne_f (fun h =>
 mRet 6 h) fun h =>
 mCal 5 h (fun _ h => h) (hf := (fun _ => clF_flat (flat_ow (e := (eI .i64)) (fun _ => rfl)) rfl)) fun r3 _ h =>
 mFin 8 h) fun _ h =>
 mRet 8 h) fun _ h =>
 mRet 12 h
end drossref08_Removal
end Go.Own
