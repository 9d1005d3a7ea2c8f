/- What the functions that the law reaches answer. No conditions. -/
import Derived.Test.YtjiphhbagdangaaGreatDoorOwn32
import Derived.Test.YtjiphhbagdangaaGreatDoorBase2
import Derived.Test.YtjiphhbagdangaaGreatDoorBase3
set_option linter.all false
namespace Go.Own
open D
def enc_api_Table : Enc api_Table := fun x => [.lit (.string x.Name), .sl (x.Attrs.map eS), .sl (x.Rows.map enc_api_Row)]
structure TF (P : Program) : Prop where
 g25 : isAggT P 25 = true
 g26 : isAggT P 26 = false
 s25 : structTs P 25 = some [9, 22, 23]
 s32 : structTs P 32 = some [30, 30]
 s49 : structTs P 49 = some [3, 2, 9]
 s52 : structTs P 52 = some [2, 50]
 u2 : P.underlying 2 = some (.int .i64)
 u22 : P.underlying 22 = some (.slice 9)
 u23 : P.underlying 23 = some (.slice 52)
 u26 : P.underlying 26 = some (.slice 32)
 u3 : P.underlying 3 = some (.int .i64)
 u30 : P.underlying 30 = some (.int .u32)
 u50 : P.underlying 50 = some (.slice 49)
 u9 : P.underlying 9 = some .string
theorem tf : TF env.P := ⟨by kernel_rfl, by kernel_rfl, by kernel_rfl, by kernel_rfl, by kernel_rfl, by kernel_rfl, by kernel_rfl, by kernel_rfl, by kernel_rfl, by kernel_rfl, by kernel_rfl, by kernel_rfl, by kernel_rfl, by kernel_rfl⟩
def ok_api_Value (x : api_Value) : Prop := (okI .i64) x.Kind ∧ (okI .i64) x.Num ∧ okStr x.Str
theorem dec_api_Value {P : Program} (F : TF P) (k : Nat) : Dec (Ty P (k + 2) 49) ok_api_Value enc_api_Value := fun ds h => by
 have h := ty_struct (k := k + 1) F.s49 h
 simp only [TyTs] at h
 obtain ⟨a0, _, rfl, h0, a1, _, rfl, h1, a2, _, rfl, h2, rfl⟩ := h
 obtain ⟨x0, o0, rfl⟩ := (dec_int (k := (k + 0)) F.u3) a0 h0
 obtain ⟨x1, o1, rfl⟩ := (dec_int (k := (k + 0)) F.u2) a1 h1
 obtain ⟨x2, o2, rfl⟩ := (dec_str (k := (k + 0)) F.u9) a2 h2
 exact ⟨⟨x0, x1, x2⟩, ⟨o0, o1, o2⟩, rfl⟩
def ok_api_Row (x : api_Row) : Prop := (okI .i64) x.ID ∧ (okL ok_api_Value) x.Values
theorem dec_api_Row {P : Program} (F : TF P) (k : Nat) : Dec (Ty P (k + 4) 52) ok_api_Row enc_api_Row := fun ds h => by
 have h := ty_struct (k := k + 3) F.s52 h
 simp only [TyTs] at h
 obtain ⟨a0, _, rfl, h0, a1, _, rfl, h1, rfl⟩ := h
 obtain ⟨x0, o0, rfl⟩ := (dec_int (k := (k + 2)) F.u2) a0 h0
 obtain ⟨x1, o1, rfl⟩ := (dec_slice (k := (k + 0) + 2) F.u50 (dec_api_Value F (k + 0))) a1 h1
 exact ⟨⟨x0, x1⟩, ⟨o0, o1⟩, rfl⟩
def ok_api_Table (x : api_Table) : Prop := okStr x.Name ∧ (okL okStr) x.Attrs ∧ (okL ok_api_Row) x.Rows
theorem dec_api_Table {P : Program} (F : TF P) (k : Nat) : Dec (Ty P (k + 6) 25) ok_api_Table enc_api_Table := fun ds h => by
 have h := ty_struct (k := k + 5) F.s25 h
 simp only [TyTs] at h
 obtain ⟨a0, _, rfl, h0, a1, _, rfl, h1, a2, _, rfl, h2, rfl⟩ := h
 obtain ⟨x0, o0, rfl⟩ := (dec_str (k := (k + 4)) F.u9) a0 h0
 obtain ⟨x1, o1, rfl⟩ := (dec_slice (k := (k + 3) + 1) F.u22 (dec_str (k := (k + 3)) F.u9)) a1 h1
 obtain ⟨x2, o2, rfl⟩ := (dec_slice (k := (k + 0) + 4) F.u23 (dec_api_Row F (k + 0))) a2 h2
 exact ⟨⟨x0, x1, x2⟩, ⟨o0, o1, o2⟩, rfl⟩
def ok_api_FD (x : api_FD) : Prop := (okI .u32) x.Lhs ∧ (okI .u32) x.Rhs
theorem dec_api_FD {P : Program} (F : TF P) (k : Nat) : Dec (Ty P (k + 2) 32) ok_api_FD enc_api_FD := fun ds h => by
 have h := ty_struct (k := k + 1) F.s32 h
 simp only [TyTs] at h
 obtain ⟨a0, _, rfl, h0, a1, _, rfl, h1, rfl⟩ := h
 obtain ⟨x0, o0, rfl⟩ := (dec_int (k := (k + 0)) F.u30) a0 h0
 obtain ⟨x1, o1, rfl⟩ := (dec_int (k := (k + 0)) F.u30) a1 h1
 exact ⟨⟨x0, x1⟩, ⟨o0, o1⟩, rfl⟩
theorem drosslaw19_ArmstrongExtra_args {P : Program} (F : TF P) {xs : List D} (hx : TyAll P 6 [25, 26] xs) : ∃ x0 : api_Table, ∃ x1 : List api_FD, ok_api_Table x0 ∧ (okL ok_api_FD) x1 ∧ xs = [.agg (enc_api_Table x0), .sl (x1.map enc_api_FD)] := by
 simp only [TyAll] at hx
 obtain ⟨d0, _, rfl, h0, d1, _, rfl, h1, rfl⟩ := hx
 obtain ⟨c0, rfl, g0⟩ := tyA_agg F.g25 h0
 obtain ⟨x0, o0, rfl⟩ := (dec_api_Table F 0) c0 g0
 have g1 := tyA_one F.g26 h1
 obtain ⟨x1, o1, e1⟩ := (dec_slice (k := 3 + 2) F.u26 (dec_api_FD F 3)) _ g1
 obtain rfl := (List.cons.inj e1).1
 exact ⟨x0, x1, o0, o1, rfl⟩
abbrev drosslaw19_ArmstrongExtra_F : Nat := 3
abbrev drosslaw19_ArmstrongExtra_K : Nat := 6
abbrev drosslaw19_ArmstrongExtra_T : List Nat := [25, 26]
theorem drosslaw19_ArmstrongExtra_of (h : ∀ x0 : api_Table, ∀ x1 : List api_FD, ok_api_Table x0 → (okL ok_api_FD) x1 → Ret env 3 [.agg (enc_api_Table x0), .sl (x1.map enc_api_FD)] (.lit (.bool true)) []) {xs : List D} (hx : TyAll env.P 6 [25, 26] xs) : Ret env 3 xs (.lit (.bool true)) [] := by
 obtain ⟨x0, x1, o0, o1, e⟩ := drosslaw19_ArmstrongExtra_args (P := env.P) tf hx
 rw [e]
 exact h x0 x1 o0 o1
end Go.Own
