/- What the functions that the law reaches answer. No conditions. -/
import Derived.Test.YtpllikglkjiciaaDoorOwn29
import Derived.Test.YtpllikglkjiciaaDoorBase1
import Derived.Test.YtpllikglkjiciaaDoorBase2
set_option linter.all false

namespace Go.Own
open D
structure TF (P : Program) : Prop where
  g22 : isAggT P 22 = false
  g23 : isAggT P 23 = false
  g3 : isAggT P 3 = false
  s31 : structTs P 31 = some [29, 29]
  s33 : structTs P 33 = some [29, 29]
  u22 : P.underlying 22 = some (.slice 31)
  u23 : P.underlying 23 = some (.slice 33)
  u29 : P.underlying 29 = some (.int .u32)
  u3 : P.underlying 3 = some (.int .i64)
theorem tf : TF env.P := ⟨by kernel_rfl, by kernel_rfl, by kernel_rfl, by kernel_rfl, by kernel_rfl, by kernel_rfl, by kernel_rfl, by kernel_rfl, by kernel_rfl⟩
def ok_api_FD (x : api_FD) : Prop := (okI .u32) x.Lhs ∧ (okI .u32) x.Rhs
theorem dec_api_FD {P : Program} (F : TF P) (k : Nat) : Dec (Ty P (k + 2) 31) ok_api_FD enc_api_FD := fun ds h => by
  have h := ty_struct (k := k + 1) F.s31 h
  simp only [TyTs] at h
  obtain ⟨a0, _, rfl, h0, a1, _, rfl, h1, rfl⟩ := h
  obtain ⟨x0, o0, rfl⟩ := (dec_int (k := (k + 0)) F.u29) a0 h0
  obtain ⟨x1, o1, rfl⟩ := (dec_int (k := (k + 0)) F.u29) a1 h1
  exact ⟨⟨x0, x1⟩, ⟨o0, o1⟩, rfl⟩
def ok_api_MVD (x : api_MVD) : Prop := (okI .u32) x.Lhs ∧ (okI .u32) x.Rhs
theorem dec_api_MVD {P : Program} (F : TF P) (k : Nat) : Dec (Ty P (k + 2) 33) ok_api_MVD enc_api_MVD := fun ds h => by
  have h := ty_struct (k := k + 1) F.s33 h
  simp only [TyTs] at h
  obtain ⟨a0, _, rfl, h0, a1, _, rfl, h1, rfl⟩ := h
  obtain ⟨x0, o0, rfl⟩ := (dec_int (k := (k + 0)) F.u29) a0 h0
  obtain ⟨x1, o1, rfl⟩ := (dec_int (k := (k + 0)) F.u29) a1 h1
  exact ⟨⟨x0, x1⟩, ⟨o0, o1⟩, rfl⟩
theorem drosslaw13_BasisValid_args {P : Program} (F : TF P) {xs : List D} (hx : TyAll P 3 [3, 22, 23] xs) : ∃ x0 : Int, ∃ x1 : List api_FD, ∃ x2 : List api_MVD, (okI .i64) x0 ∧ (okL ok_api_FD) x1 ∧ (okL ok_api_MVD) x2 ∧ xs = [.lit (.int .i64 x0), .sl (x1.map enc_api_FD), .sl (x2.map enc_api_MVD)] := by
  simp only [TyAll] at hx
  obtain ⟨d0, _, rfl, h0, d1, _, rfl, h1, d2, _, rfl, h2, rfl⟩ := hx
  have g0 := tyA_one F.g3 h0
  obtain ⟨x0, o0, e0⟩ := (dec_int (k := 2) F.u3) _ g0
  obtain rfl := (List.cons.inj e0).1
  have g1 := tyA_one F.g22 h1
  obtain ⟨x1, o1, e1⟩ := (dec_slice (k := 0 + 2) F.u22 (dec_api_FD F 0)) _ g1
  obtain rfl := (List.cons.inj e1).1
  have g2 := tyA_one F.g23 h2
  obtain ⟨x2, o2, e2⟩ := (dec_slice (k := 0 + 2) F.u23 (dec_api_MVD F 0)) _ g2
  obtain rfl := (List.cons.inj e2).1
  exact ⟨x0, x1, x2, o0, o1, o2, rfl⟩
abbrev drosslaw13_BasisValid_F : Nat := 3
abbrev drosslaw13_BasisValid_K : Nat := 3
abbrev drosslaw13_BasisValid_T : List Nat := [3, 22, 23]
theorem drosslaw13_BasisValid_of (h : ∀ x0 : Int, ∀ x1 : List api_FD, ∀ x2 : List api_MVD, (okI .i64) x0 → (okL ok_api_FD) x1 → (okL ok_api_MVD) x2 → Ret env 3 [.lit (.int .i64 x0), .sl (x1.map enc_api_FD), .sl (x2.map enc_api_MVD)] (.lit (.bool true)) []) {xs : List D} (hx : TyAll env.P 3 [3, 22, 23] xs) : Ret env 3 xs (.lit (.bool true)) [] := by
  obtain ⟨x0, x1, x2, o0, o1, o2, e⟩ := drosslaw13_BasisValid_args (P := env.P) tf hx
  rw [e]
  exact h x0 x1 x2 o0 o1 o2
end Go.Own
