/- What the functions that the law reaches answer. No conditions. -/
import Derived.Test.YtgclpapfgmckbaaDoorOwn27
import Derived.Test.YtgclpapfgmckbaaDoorBase2
import Derived.Test.YtgclpapfgmckbaaDoorBase3
set_option linter.all false

namespace Go.Own
open D
def enc_drossref03_Recipe : Enc drossref03_Recipe := fun x => [.lit (.int .u8 x.Attrs), .lit (.int .u8 x.Gap), .sl (x.Rows.map (eSl (eI .u8)))]
structure TF (P : Program) : Prop where
  g47 : isAggT P 47 = true
  g5 : isAggT P 5 = false
  s47 : structTs P 47 = some [5, 5, 45]
  u40 : P.underlying 40 = some (.slice 5)
  u45 : P.underlying 45 = some (.slice 40)
  u5 : P.underlying 5 = some (.int .u8)
theorem tf : TF env.P := ⟨by kernel_rfl, by kernel_rfl, by kernel_rfl, by kernel_rfl, by kernel_rfl, by kernel_rfl⟩
def ok_drossref03_Recipe (x : drossref03_Recipe) : Prop := (okI .u8) x.Attrs ∧ (okI .u8) x.Gap ∧ (okL (okL (okI .u8))) x.Rows
theorem dec_drossref03_Recipe {P : Program} (F : TF P) (k : Nat) : Dec (Ty P (k + 4) 47) ok_drossref03_Recipe enc_drossref03_Recipe := fun ds h => by
  have h := ty_struct (k := k + 3) F.s47 h
  simp only [TyTs] at h
  obtain ⟨a0, _, rfl, h0, a1, _, rfl, h1, a2, _, rfl, h2, rfl⟩ := h
  obtain ⟨x0, o0, rfl⟩ := (dec_int (k := (k + 2)) F.u5) a0 h0
  obtain ⟨x1, o1, rfl⟩ := (dec_int (k := (k + 2)) F.u5) a1 h1
  obtain ⟨x2, o2, rfl⟩ := (dec_slice (k := (k + 0) + 2) F.u45 (dec_slice (k := (k + 0) + 1) F.u40 (dec_int (k := (k + 0)) F.u5))) a2 h2
  exact ⟨⟨x0, x1, x2⟩, ⟨o0, o1, o2⟩, rfl⟩
theorem drosslaw08_PartitionUnion_args {P : Program} (F : TF P) {xs : List D} (hx : TyAll P 4 [47, 5, 5] xs) : ∃ x0 : drossref03_Recipe, ∃ x1 : Int, ∃ x2 : Int, ok_drossref03_Recipe x0 ∧ (okI .u8) x1 ∧ (okI .u8) x2 ∧ xs = [.agg (enc_drossref03_Recipe x0), .lit (.int .u8 x1), .lit (.int .u8 x2)] := by
  simp only [TyAll] at hx
  obtain ⟨d0, _, rfl, h0, d1, _, rfl, h1, d2, _, rfl, h2, rfl⟩ := hx
  obtain ⟨c0, rfl, g0⟩ := tyA_agg F.g47 h0
  obtain ⟨x0, o0, rfl⟩ := (dec_drossref03_Recipe F 0) c0 g0
  have g1 := tyA_one F.g5 h1
  obtain ⟨x1, o1, e1⟩ := (dec_int (k := 3) F.u5) _ g1
  obtain rfl := (List.cons.inj e1).1
  have g2 := tyA_one F.g5 h2
  obtain ⟨x2, o2, e2⟩ := (dec_int (k := 3) F.u5) _ g2
  obtain rfl := (List.cons.inj e2).1
  exact ⟨x0, x1, x2, o0, o1, o2, rfl⟩
abbrev drosslaw08_PartitionUnion_F : Nat := 6
abbrev drosslaw08_PartitionUnion_K : Nat := 4
abbrev drosslaw08_PartitionUnion_T : List Nat := [47, 5, 5]
theorem drosslaw08_PartitionUnion_of (h : ∀ x0 : drossref03_Recipe, ∀ x1 : Int, ∀ x2 : Int, ok_drossref03_Recipe x0 → (okI .u8) x1 → (okI .u8) x2 → Ret env 6 [.agg (enc_drossref03_Recipe x0), .lit (.int .u8 x1), .lit (.int .u8 x2)] (.lit (.bool true)) []) {xs : List D} (hx : TyAll env.P 4 [47, 5, 5] xs) : Ret env 6 xs (.lit (.bool true)) [] := by
  obtain ⟨x0, x1, x2, o0, o1, o2, e⟩ := drosslaw08_PartitionUnion_args (P := env.P) tf hx
  rw [e]
  exact h x0 x1 x2 o0 o1 o2
end Go.Own
