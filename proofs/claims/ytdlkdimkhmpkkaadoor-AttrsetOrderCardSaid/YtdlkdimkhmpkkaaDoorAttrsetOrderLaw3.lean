/- What the functions that the law reaches answer. No conditions. -/
import Derived.Test.YtdlkdimkhmpkkaaDoorOwn33
import Derived.Test.YtdlkdimkhmpkkaaDoorBase2
import Derived.Test.YtdlkdimkhmpkkaaDoorBase3
set_option linter.all false

namespace Go.Own
open D
structure TF (P : Program) : Prop where
  g42 : isAggT P 42 = false
  u23 : P.underlying 23 = some (.int .u32)
  u42 : P.underlying 42 = some (.slice 23)
theorem tf : TF env.P := ⟨by kernel_rfl, by kernel_rfl, by kernel_rfl⟩
theorem drosslaw02_AttrsetOrder_args {P : Program} (F : TF P) {xs : List D} (hx : TyAll P 2 [42] xs) : ∃ x0 : List Int, (okL (okI .u32)) x0 ∧ xs = [.sl (x0.map (eI .u32))] := by
  simp only [TyAll] at hx
  obtain ⟨d0, _, rfl, h0, rfl⟩ := hx
  have g0 := tyA_one F.g42 h0
  obtain ⟨x0, o0, e0⟩ := (dec_slice (k := 0 + 1) F.u42 (dec_int (k := 0) F.u23)) _ g0
  obtain rfl := (List.cons.inj e0).1
  exact ⟨x0, o0, rfl⟩
abbrev drosslaw02_AttrsetOrder_F : Nat := 5
abbrev drosslaw02_AttrsetOrder_K : Nat := 2
abbrev drosslaw02_AttrsetOrder_T : List Nat := [42]
theorem drosslaw02_AttrsetOrder_of (h : ∀ x0 : List Int, (okL (okI .u32)) x0 → Ret env 5 [.sl (x0.map (eI .u32))] (.lit (.bool true)) []) {xs : List D} (hx : TyAll env.P 2 [42] xs) : Ret env 5 xs (.lit (.bool true)) [] := by
  obtain ⟨x0, o0, e⟩ := drosslaw02_AttrsetOrder_args (P := env.P) tf hx
  rw [e]
  exact h x0 o0
end Go.Own
