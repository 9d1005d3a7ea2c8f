/- What the functions that the law reaches answer. No conditions. -/
import Derived.Test.YtpllikglkjiciaaDoorOwn29
import Derived.Test.YtpllikglkjiciaaDoorBase1
import Derived.Test.YtpllikglkjiciaaDoorBase2
set_option linter.all false

namespace Go.Own
open D
structure TF (P : Program) : Prop where
  g3 : isAggT P 3 = false
  g33 : isAggT P 33 = true
  s33 : structTs P 33 = some [29, 29]
  u29 : P.underlying 29 = some (.int .u32)
  u3 : P.underlying 3 = some (.int .i64)
theorem tf : TF env.P := ⟨by kernel_rfl, by kernel_rfl, by kernel_rfl, by kernel_rfl, by kernel_rfl⟩
def ok_api_MVD (x : api_MVD) : Prop := (okI .u32) x.Lhs ∧ (okI .u32) x.Rhs
theorem dec_api_MVD {P : Program} (F : TF P) (k : Nat) : Dec (Ty P (k + 2) 33) ok_api_MVD enc_api_MVD := fun ds h => by
  have h := ty_struct (k := k + 1) F.s33 h
  simp only [TyTs] at h
  obtain ⟨a0, _, rfl, h0, a1, _, rfl, h1, rfl⟩ := h
  obtain ⟨x0, o0, rfl⟩ := (dec_int (k := (k + 0)) F.u29) a0 h0
  obtain ⟨x1, o1, rfl⟩ := (dec_int (k := (k + 0)) F.u29) a1 h1
  exact ⟨⟨x0, x1⟩, ⟨o0, o1⟩, rfl⟩
theorem drosslaw13_BasisComplement_args {P : Program} (F : TF P) {xs : List D} (hx : TyAll P 2 [3, 33] xs) : ∃ x0 : Int, ∃ x1 : api_MVD, (okI .i64) x0 ∧ ok_api_MVD x1 ∧ xs = [.lit (.int .i64 x0), .agg (enc_api_MVD x1)] := by
  simp only [TyAll] at hx
  obtain ⟨d0, _, rfl, h0, d1, _, rfl, h1, rfl⟩ := hx
  have g0 := tyA_one F.g3 h0
  obtain ⟨x0, o0, e0⟩ := (dec_int (k := 1) F.u3) _ g0
  obtain rfl := (List.cons.inj e0).1
  obtain ⟨c1, rfl, g1⟩ := tyA_agg F.g33 h1
  obtain ⟨x1, o1, rfl⟩ := (dec_api_MVD F 0) c1 g1
  exact ⟨x0, x1, o0, o1, rfl⟩
abbrev drosslaw13_BasisComplement_F : Nat := 5
abbrev drosslaw13_BasisComplement_K : Nat := 2
abbrev drosslaw13_BasisComplement_T : List Nat := [3, 33]
theorem drosslaw13_BasisComplement_of (h : ∀ x0 : Int, ∀ x1 : api_MVD, (okI .i64) x0 → ok_api_MVD x1 → Ret env 5 [.lit (.int .i64 x0), .agg (enc_api_MVD x1)] (.lit (.bool true)) []) {xs : List D} (hx : TyAll env.P 2 [3, 33] xs) : Ret env 5 xs (.lit (.bool true)) [] := by
  obtain ⟨x0, x1, o0, o1, e⟩ := drosslaw13_BasisComplement_args (P := env.P) tf hx
  rw [e]
  exact h x0 x1 o0 o1
end Go.Own
