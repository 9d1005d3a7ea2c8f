/- What the functions that the law reaches answer. No conditions. -/
import Derived.Test.YtgclpapfgmckbaaDoorOwn17
import Derived.Test.YtgclpapfgmckbaaDoorBase2
import Derived.Test.YtgclpapfgmckbaaDoorBase3
import Derived.Test.YtgclpapfgmckbaaDoorBase6
set_option linter.all false

namespace Go.Own
open D
def enc_api_Partition : Enc api_Partition := fun x => [.lit (.int .i64 x.Rows), .sl (x.Classes.map (eSl (eI .i64)))]
structure TF (P : Program) : Prop where
  g31 : isAggT P 31 = true
  s31 : structTs P 31 = some [3, 29]
  u29 : P.underlying 29 = some (.slice 38)
  u3 : P.underlying 3 = some (.int .i64)
  u38 : P.underlying 38 = some (.slice 3)
theorem tf : TF env.P := ⟨by kernel_rfl, by kernel_rfl, by kernel_rfl, by kernel_rfl, by kernel_rfl⟩
def ok_api_Partition (x : api_Partition) : Prop := (okI .i64) x.Rows ∧ (okL (okL (okI .i64))) x.Classes
theorem dec_api_Partition {P : Program} (F : TF P) (k : Nat) : Dec (Ty P (k + 4) 31) ok_api_Partition enc_api_Partition := fun ds h => by
  have h := ty_struct (k := k + 3) F.s31 h
  simp only [TyTs] at h
  obtain ⟨a0, _, rfl, h0, a1, _, rfl, h1, rfl⟩ := h
  obtain ⟨x0, o0, rfl⟩ := (dec_int (k := (k + 2)) F.u3) a0 h0
  obtain ⟨x1, o1, rfl⟩ := (dec_slice (k := (k + 0) + 2) F.u29 (dec_slice (k := (k + 0) + 1) F.u38 (dec_int (k := (k + 0)) F.u3))) a1 h1
  exact ⟨⟨x0, x1⟩, ⟨o0, o1⟩, rfl⟩
theorem drosslaw08_PartitionValid_args {P : Program} (F : TF P) {xs : List D} (hx : TyAll P 4 [31] xs) : ∃ x0 : api_Partition, ok_api_Partition x0 ∧ xs = [.agg (enc_api_Partition x0)] := by
  simp only [TyAll] at hx
  obtain ⟨d0, _, rfl, h0, rfl⟩ := hx
  obtain ⟨c0, rfl, g0⟩ := tyA_agg F.g31 h0
  obtain ⟨x0, o0, rfl⟩ := (dec_api_Partition F 0) c0 g0
  exact ⟨x0, o0, rfl⟩
theorem drosslaw08_PartitionValid_of (h : ∀ x0 : api_Partition, ok_api_Partition x0 → Ret env 4 [.agg (enc_api_Partition x0)] (.lit (.bool true)) []) {xs : List D} (hx : TyAll env.P 4 [31] xs) : Ret env 4 xs (.lit (.bool true)) [] := by
  obtain ⟨x0, o0, e⟩ := drosslaw08_PartitionValid_args (P := env.P) tf hx
  rw [e]
  exact h x0 o0
end Go.Own
