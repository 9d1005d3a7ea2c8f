/- What the functions that the law reaches answer. No conditions. -/
import Derived.Test.YtgclpapfgmckbaaDoorOwn27
import Derived.Test.YtgclpapfgmckbaaDoorBase2
import Derived.Test.YtgclpapfgmckbaaDoorBase3
set_option linter.all false

namespace Go.Own
open D
def enc_api_Table : Enc api_Table := fun x => [.lit (.string x.Name), .sl (x.Attrs.map eS), .sl (x.Rows.map enc_api_Row)]
def enc_api_FD : Enc api_FD := fun x => [.lit (.int .u32 x.Lhs), .lit (.int .u32 x.Rhs)]
structure TF (P : Program) : Prop where
  g25 : isAggT P 25 = true
  g56 : isAggT P 56 = true
  s25 : structTs P 25 = some [9, 22, 23]
  s56 : structTs P 56 = some [27, 27]
  s67 : structTs P 67 = some [2, 65]
  s94 : structTs P 94 = some [3, 2, 9]
  u2 : P.underlying 2 = some (.int .i64)
  u22 : P.underlying 22 = some (.slice 9)
  u23 : P.underlying 23 = some (.slice 67)
  u27 : P.underlying 27 = some (.int .u32)
  u3 : P.underlying 3 = some (.int .i64)
  u65 : P.underlying 65 = some (.slice 94)
  u9 : P.underlying 9 = some .string
theorem tf : TF env.P := ⟨by kernel_rfl, by kernel_rfl, by kernel_rfl, by kernel_rfl, by kernel_rfl, by kernel_rfl, by kernel_rfl, by kernel_rfl, by kernel_rfl, by kernel_rfl, by kernel_rfl, by kernel_rfl, by kernel_rfl⟩
def ok_api_Value (x : api_Value) : Prop := (okI .i64) x.Kind ∧ (okI .i64) x.Num ∧ okStr x.Str
theorem dec_api_Value {P : Program} (F : TF P) (k : Nat) : Dec (Ty P (k + 2) 94) ok_api_Value enc_api_Value := fun ds h => by
  have h := ty_struct (k := k + 1) F.s94 h
  simp only [TyTs] at h
  obtain ⟨a0, _, rfl, h0, a1, _, rfl, h1, a2, _, rfl, h2, rfl⟩ := h
  obtain ⟨x0, o0, rfl⟩ := (dec_int (k := (k + 0)) F.u3) a0 h0
  obtain ⟨x1, o1, rfl⟩ := (dec_int (k := (k + 0)) F.u2) a1 h1
  obtain ⟨x2, o2, rfl⟩ := (dec_str (k := (k + 0)) F.u9) a2 h2
  exact ⟨⟨x0, x1, x2⟩, ⟨o0, o1, o2⟩, rfl⟩
def ok_api_Row (x : api_Row) : Prop := (okI .i64) x.ID ∧ (okL ok_api_Value) x.Values
theorem dec_api_Row {P : Program} (F : TF P) (k : Nat) : Dec (Ty P (k + 4) 67) ok_api_Row enc_api_Row := fun ds h => by
  have h := ty_struct (k := k + 3) F.s67 h
  simp only [TyTs] at h
  obtain ⟨a0, _, rfl, h0, a1, _, rfl, h1, rfl⟩ := h
  obtain ⟨x0, o0, rfl⟩ := (dec_int (k := (k + 2)) F.u2) a0 h0
  obtain ⟨x1, o1, rfl⟩ := (dec_slice (k := (k + 0) + 2) F.u65 (dec_api_Value F (k + 0))) a1 h1
  exact ⟨⟨x0, x1⟩, ⟨o0, o1⟩, rfl⟩
def ok_api_Table (x : api_Table) : Prop := okStr x.Name ∧ (okL okStr) x.Attrs ∧ (okL ok_api_Row) x.Rows
theorem dec_api_Table {P : Program} (F : TF P) (k : Nat) : Dec (Ty P (k + 6) 25) ok_api_Table enc_api_Table := fun ds h => by
  have h := ty_struct (k := k + 5) F.s25 h
  simp only [TyTs] at h
  obtain ⟨a0, _, rfl, h0, a1, _, rfl, h1, a2, _, rfl, h2, rfl⟩ := h
  obtain ⟨x0, o0, rfl⟩ := (dec_str (k := (k + 4)) F.u9) a0 h0
  obtain ⟨x1, o1, rfl⟩ := (dec_slice (k := (k + 3) + 1) F.u22 (dec_str (k := (k + 3)) F.u9)) a1 h1
  obtain ⟨x2, o2, rfl⟩ := (dec_slice (k := (k + 0) + 4) F.u23 (dec_api_Row F (k + 0))) a2 h2
  exact ⟨⟨x0, x1, x2⟩, ⟨o0, o1, o2⟩, rfl⟩
def ok_api_FD (x : api_FD) : Prop := (okI .u32) x.Lhs ∧ (okI .u32) x.Rhs
theorem dec_api_FD {P : Program} (F : TF P) (k : Nat) : Dec (Ty P (k + 2) 56) ok_api_FD enc_api_FD := fun ds h => by
  have h := ty_struct (k := k + 1) F.s56 h
  simp only [TyTs] at h
  obtain ⟨a0, _, rfl, h0, a1, _, rfl, h1, rfl⟩ := h
  obtain ⟨x0, o0, rfl⟩ := (dec_int (k := (k + 0)) F.u27) a0 h0
  obtain ⟨x1, o1, rfl⟩ := (dec_int (k := (k + 0)) F.u27) a1 h1
  exact ⟨⟨x0, x1⟩, ⟨o0, o1⟩, rfl⟩
theorem drosslaw08_PartitionHolds_args {P : Program} (F : TF P) {xs : List D} (hx : TyAll P 6 [25, 56] xs) : ∃ x0 : api_Table, ∃ x1 : api_FD, ok_api_Table x0 ∧ ok_api_FD x1 ∧ xs = [.agg (enc_api_Table x0), .agg (enc_api_FD x1)] := by
  simp only [TyAll] at hx
  obtain ⟨d0, _, rfl, h0, d1, _, rfl, h1, rfl⟩ := hx
  obtain ⟨c0, rfl, g0⟩ := tyA_agg F.g25 h0
  obtain ⟨x0, o0, rfl⟩ := (dec_api_Table F 0) c0 g0
  obtain ⟨c1, rfl, g1⟩ := tyA_agg F.g56 h1
  obtain ⟨x1, o1, rfl⟩ := (dec_api_FD F 4) c1 g1
  exact ⟨x0, x1, o0, o1, rfl⟩
abbrev drosslaw08_PartitionHolds_F : Nat := 10
abbrev drosslaw08_PartitionHolds_K : Nat := 6
abbrev drosslaw08_PartitionHolds_T : List Nat := [25, 56]
theorem drosslaw08_PartitionHolds_of (h : ∀ x0 : api_Table, ∀ x1 : api_FD, ok_api_Table x0 → ok_api_FD x1 → Ret env 10 [.agg (enc_api_Table x0), .agg (enc_api_FD x1)] (.lit (.bool true)) []) {xs : List D} (hx : TyAll env.P 6 [25, 56] xs) : Ret env 10 xs (.lit (.bool true)) [] := by
  obtain ⟨x0, x1, o0, o1, e⟩ := drosslaw08_PartitionHolds_args (P := env.P) tf hx
  rw [e]
  exact h x0 x1 o0 o1
end Go.Own
