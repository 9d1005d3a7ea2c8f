/- What the functions that the law reaches answer. No conditions. -/
import Derived.Test.YtjiphhbagdangaaOwn32
import Derived.Test.YtjiphhbagdangaaBase1
import Derived.Test.YtjiphhbagdangaaBase2
set_option linter.all false

namespace Go.Own
open D
def enc_drossref09_Deps : Enc drossref09_Deps := fun x => [.lit (.int .u8 x.N), .sl (x.L.map enc_drossref09_Dep)]
structure TF (P : Program) : Prop where
  g22 : isAggT P 22 = false
  g3 : isAggT P 3 = false
  g48 : isAggT P 48 = true
  s33 : structTs P 33 = some [31, 31]
  s48 : structTs P 48 = some [5, 46]
  s74 : structTs P 74 = some [5, 5]
  u22 : P.underlying 22 = some (.slice 33)
  u3 : P.underlying 3 = some (.int .i64)
  u31 : P.underlying 31 = some (.int .u32)
  u46 : P.underlying 46 = some (.slice 74)
  u5 : P.underlying 5 = some (.int .u8)
theorem tf : TF env.P := ⟨by kernel_rfl, by kernel_rfl, by kernel_rfl, by kernel_rfl, by kernel_rfl, by kernel_rfl, by kernel_rfl, by kernel_rfl, by kernel_rfl, by kernel_rfl, by kernel_rfl⟩
def ok_api_FD (x : api_FD) : Prop := (okI .u32) x.Lhs ∧ (okI .u32) x.Rhs
theorem dec_api_FD {P : Program} (F : TF P) (k : Nat) : Dec (Ty P (k + 2) 33) ok_api_FD enc_api_FD := fun ds h => by
  have h := ty_struct (k := k + 1) F.s33 h
  simp only [TyTs] at h
  obtain ⟨a0, _, rfl, h0, a1, _, rfl, h1, rfl⟩ := h
  obtain ⟨x0, o0, rfl⟩ := (dec_int (k := (k + 0)) F.u31) a0 h0
  obtain ⟨x1, o1, rfl⟩ := (dec_int (k := (k + 0)) F.u31) a1 h1
  exact ⟨⟨x0, x1⟩, ⟨o0, o1⟩, rfl⟩
theorem drosslaw19_ArmstrongMax_args {P : Program} (F : TF P) {xs : List D} (hx : TyAll P 3 [3, 22, 3] xs) : ∃ x0 : Int, ∃ x1 : List api_FD, ∃ x2 : Int, (okI .i64) x0 ∧ (okL ok_api_FD) x1 ∧ (okI .i64) x2 ∧ xs = [.lit (.int .i64 x0), .sl (x1.map enc_api_FD), .lit (.int .i64 x2)] := by
  simp only [TyAll] at hx
  obtain ⟨d0, _, rfl, h0, d1, _, rfl, h1, d2, _, rfl, h2, rfl⟩ := hx
  have g0 := tyA_one F.g3 h0
  obtain ⟨x0, o0, e0⟩ := (dec_int (k := 2) F.u3) _ g0
  obtain rfl := (List.cons.inj e0).1
  have g1 := tyA_one F.g22 h1
  obtain ⟨x1, o1, e1⟩ := (dec_slice (k := 0 + 2) F.u22 (dec_api_FD F 0)) _ g1
  obtain rfl := (List.cons.inj e1).1
  have g2 := tyA_one F.g3 h2
  obtain ⟨x2, o2, e2⟩ := (dec_int (k := 2) F.u3) _ g2
  obtain rfl := (List.cons.inj e2).1
  exact ⟨x0, x1, x2, o0, o1, o2, rfl⟩
abbrev drosslaw19_ArmstrongMax_F : Nat := 4
abbrev drosslaw19_ArmstrongMax_K : Nat := 3
abbrev drosslaw19_ArmstrongMax_T : List Nat := [3, 22, 3]
theorem drosslaw19_ArmstrongMax_of (h : ∀ x0 : Int, ∀ x1 : List api_FD, ∀ x2 : Int, (okI .i64) x0 → (okL ok_api_FD) x1 → (okI .i64) x2 → Ret env 4 [.lit (.int .i64 x0), .sl (x1.map enc_api_FD), .lit (.int .i64 x2)] (.lit (.bool true)) []) {xs : List D} (hx : TyAll env.P 3 [3, 22, 3] xs) : Ret env 4 xs (.lit (.bool true)) [] := by
  obtain ⟨x0, x1, x2, o0, o1, o2, e⟩ := drosslaw19_ArmstrongMax_args (P := env.P) tf hx
  rw [e]
  exact h x0 x1 x2 o0 o1 o2
theorem drosslaw19_ArmstrongBuild_args {P : Program} (F : TF P) {xs : List D} (hx : TyAll P 3 [3, 22] xs) : ∃ x0 : Int, ∃ x1 : List api_FD, (okI .i64) x0 ∧ (okL ok_api_FD) x1 ∧ xs = [.lit (.int .i64 x0), .sl (x1.map enc_api_FD)] := by
  simp only [TyAll] at hx
  obtain ⟨d0, _, rfl, h0, d1, _, rfl, h1, rfl⟩ := hx
  have g0 := tyA_one F.g3 h0
  obtain ⟨x0, o0, e0⟩ := (dec_int (k := 2) F.u3) _ g0
  obtain rfl := (List.cons.inj e0).1
  have g1 := tyA_one F.g22 h1
  obtain ⟨x1, o1, e1⟩ := (dec_slice (k := 0 + 2) F.u22 (dec_api_FD F 0)) _ g1
  obtain rfl := (List.cons.inj e1).1
  exact ⟨x0, x1, o0, o1, rfl⟩
abbrev drosslaw19_ArmstrongBuild_F : Nat := 5
abbrev drosslaw19_ArmstrongBuild_K : Nat := 3
abbrev drosslaw19_ArmstrongBuild_T : List Nat := [3, 22]
theorem drosslaw19_ArmstrongBuild_of (h : ∀ x0 : Int, ∀ x1 : List api_FD, (okI .i64) x0 → (okL ok_api_FD) x1 → Ret env 5 [.lit (.int .i64 x0), .sl (x1.map enc_api_FD)] (.lit (.bool true)) []) {xs : List D} (hx : TyAll env.P 3 [3, 22] xs) : Ret env 5 xs (.lit (.bool true)) [] := by
  obtain ⟨x0, x1, o0, o1, e⟩ := drosslaw19_ArmstrongBuild_args (P := env.P) tf hx
  rw [e]
  exact h x0 x1 o0 o1
def ok_drossref09_Dep (x : drossref09_Dep) : Prop := (okI .u8) x.L ∧ (okI .u8) x.R
theorem dec_drossref09_Dep {P : Program} (F : TF P) (k : Nat) : Dec (Ty P (k + 2) 74) ok_drossref09_Dep enc_drossref09_Dep := fun ds h => by
  have h := ty_struct (k := k + 1) F.s74 h
  simp only [TyTs] at h
  obtain ⟨a0, _, rfl, h0, a1, _, rfl, h1, rfl⟩ := h
  obtain ⟨x0, o0, rfl⟩ := (dec_int (k := (k + 0)) F.u5) a0 h0
  obtain ⟨x1, o1, rfl⟩ := (dec_int (k := (k + 0)) F.u5) a1 h1
  exact ⟨⟨x0, x1⟩, ⟨o0, o1⟩, rfl⟩
def ok_drossref09_Deps (x : drossref09_Deps) : Prop := (okI .u8) x.N ∧ (okL ok_drossref09_Dep) x.L
theorem dec_drossref09_Deps {P : Program} (F : TF P) (k : Nat) : Dec (Ty P (k + 4) 48) ok_drossref09_Deps enc_drossref09_Deps := fun ds h => by
  have h := ty_struct (k := k + 3) F.s48 h
  simp only [TyTs] at h
  obtain ⟨a0, _, rfl, h0, a1, _, rfl, h1, rfl⟩ := h
  obtain ⟨x0, o0, rfl⟩ := (dec_int (k := (k + 2)) F.u5) a0 h0
  obtain ⟨x1, o1, rfl⟩ := (dec_slice (k := (k + 0) + 2) F.u46 (dec_drossref09_Dep F (k + 0))) a1 h1
  exact ⟨⟨x0, x1⟩, ⟨o0, o1⟩, rfl⟩
theorem drosslaw19_ArmstrongMeet_args {P : Program} (F : TF P) {xs : List D} (hx : TyAll P 4 [48] xs) : ∃ x0 : drossref09_Deps, ok_drossref09_Deps x0 ∧ xs = [.agg (enc_drossref09_Deps x0)] := by
  simp only [TyAll] at hx
  obtain ⟨d0, _, rfl, h0, rfl⟩ := hx
  obtain ⟨c0, rfl, g0⟩ := tyA_agg F.g48 h0
  obtain ⟨x0, o0, rfl⟩ := (dec_drossref09_Deps F 0) c0 g0
  exact ⟨x0, o0, rfl⟩
abbrev drosslaw19_ArmstrongMeet_F : Nat := 6
abbrev drosslaw19_ArmstrongMeet_K : Nat := 4
abbrev drosslaw19_ArmstrongMeet_T : List Nat := [48]
theorem drosslaw19_ArmstrongMeet_of (h : ∀ x0 : drossref09_Deps, ok_drossref09_Deps x0 → Ret env 6 [.agg (enc_drossref09_Deps x0)] (.lit (.bool true)) []) {xs : List D} (hx : TyAll env.P 4 [48] xs) : Ret env 6 xs (.lit (.bool true)) [] := by
  obtain ⟨x0, o0, e⟩ := drosslaw19_ArmstrongMeet_args (P := env.P) tf hx
  rw [e]
  exact h x0 o0
end Go.Own
