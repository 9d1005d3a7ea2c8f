/- What the functions that the law reaches answer. No conditions. -/
import Derived.Test.YtdlkdimkhmpkkaaDoorOwn33
import Derived.Test.YtdlkdimkhmpkkaaDoorBase2
import Derived.Test.YtdlkdimkhmpkkaaDoorBase3
set_option linter.all false

namespace Go.Own
open D
structure TF (P : Program) : Prop where
  g22 : isAggT P 22 = false
  g23 : isAggT P 23 = false
  g3 : isAggT P 3 = false
  g34 : isAggT P 34 = false
  g35 : isAggT P 35 = false
  g42 : isAggT P 42 = false
  g5 : isAggT P 5 = false
  g9 : isAggT P 9 = false
  u22 : P.underlying 22 = some (.slice 3)
  u23 : P.underlying 23 = some (.int .u32)
  u3 : P.underlying 3 = some (.int .i64)
  u34 : P.underlying 34 = some (.int .u16)
  u35 : P.underlying 35 = some (.slice 9)
  u42 : P.underlying 42 = some (.slice 23)
  u5 : P.underlying 5 = some (.int .u8)
  u9 : P.underlying 9 = some .string
theorem tf : TF env.P := ⟨by kernel_rfl, by kernel_rfl, by kernel_rfl, by kernel_rfl, by kernel_rfl, by kernel_rfl, by kernel_rfl, by kernel_rfl, by kernel_rfl, by kernel_rfl, by kernel_rfl, by kernel_rfl, by kernel_rfl, by kernel_rfl, by kernel_rfl, by kernel_rfl⟩
theorem drosslaw02_AttrsetOrder_args {P : Program} (F : TF P) {xs : List D} (hx : TyAll P 2 [42] xs) : ∃ x0 : List Int, (okL (okI .u32)) x0 ∧ xs = [.sl (x0.map (eI .u32))] := by
  simp only [TyAll] at hx
  obtain ⟨d0, _, rfl, h0, rfl⟩ := hx
  have g0 := tyA_one F.g42 h0
  obtain ⟨x0, o0, e0⟩ := (dec_slice (k := 0 + 1) F.u42 (dec_int (k := 0) F.u23)) _ g0
  obtain rfl := (List.cons.inj e0).1
  exact ⟨x0, o0, rfl⟩
abbrev drosslaw02_AttrsetOrder_F : Nat := 5
abbrev drosslaw02_AttrsetOrder_K : Nat := 2
abbrev drosslaw02_AttrsetOrder_T : List Nat := [42]
theorem drosslaw02_AttrsetOrder_of (h : ∀ x0 : List Int, (okL (okI .u32)) x0 → Ret env 5 [.sl (x0.map (eI .u32))] (.lit (.bool true)) []) {xs : List D} (hx : TyAll env.P 2 [42] xs) : Ret env 5 xs (.lit (.bool true)) [] := by
  obtain ⟨x0, o0, e⟩ := drosslaw02_AttrsetOrder_args (P := env.P) tf hx
  rw [e]
  exact h x0 o0
theorem drosslaw02_AttrsetSubsets_args {P : Program} (F : TF P) {xs : List D} (hx : TyAll P 1 [23] xs) : ∃ x0 : Int, (okI .u32) x0 ∧ xs = [.lit (.int .u32 x0)] := by
  simp only [TyAll] at hx
  obtain ⟨d0, _, rfl, h0, rfl⟩ := hx
  have g0 := tyA_one F.g23 h0
  obtain ⟨x0, o0, e0⟩ := (dec_int (k := 0) F.u23) _ g0
  obtain rfl := (List.cons.inj e0).1
  exact ⟨x0, o0, rfl⟩
abbrev drosslaw02_AttrsetSubsets_F : Nat := 6
abbrev drosslaw02_AttrsetSubsets_K : Nat := 1
abbrev drosslaw02_AttrsetSubsets_T : List Nat := [23]
theorem drosslaw02_AttrsetSubsets_of (h : ∀ x0 : Int, (okI .u32) x0 → Ret env 6 [.lit (.int .u32 x0)] (.lit (.bool true)) []) {xs : List D} (hx : TyAll env.P 1 [23] xs) : Ret env 6 xs (.lit (.bool true)) [] := by
  obtain ⟨x0, o0, e⟩ := drosslaw02_AttrsetSubsets_args (P := env.P) tf hx
  rw [e]
  exact h x0 o0
theorem drosslaw02_AttrsetLevel_args {P : Program} (F : TF P) {xs : List D} (hx : TyAll P 1 [3, 3] xs) : ∃ x0 : Int, ∃ x1 : Int, (okI .i64) x0 ∧ (okI .i64) x1 ∧ xs = [.lit (.int .i64 x0), .lit (.int .i64 x1)] := by
  simp only [TyAll] at hx
  obtain ⟨d0, _, rfl, h0, d1, _, rfl, h1, rfl⟩ := hx
  have g0 := tyA_one F.g3 h0
  obtain ⟨x0, o0, e0⟩ := (dec_int (k := 0) F.u3) _ g0
  obtain rfl := (List.cons.inj e0).1
  have g1 := tyA_one F.g3 h1
  obtain ⟨x1, o1, e1⟩ := (dec_int (k := 0) F.u3) _ g1
  obtain rfl := (List.cons.inj e1).1
  exact ⟨x0, x1, o0, o1, rfl⟩
abbrev drosslaw02_AttrsetLevel_F : Nat := 7
abbrev drosslaw02_AttrsetLevel_K : Nat := 1
abbrev drosslaw02_AttrsetLevel_T : List Nat := [3, 3]
theorem drosslaw02_AttrsetLevel_of (h : ∀ x0 : Int, ∀ x1 : Int, (okI .i64) x0 → (okI .i64) x1 → Ret env 7 [.lit (.int .i64 x0), .lit (.int .i64 x1)] (.lit (.bool true)) []) {xs : List D} (hx : TyAll env.P 1 [3, 3] xs) : Ret env 7 xs (.lit (.bool true)) [] := by
  obtain ⟨x0, x1, o0, o1, e⟩ := drosslaw02_AttrsetLevel_args (P := env.P) tf hx
  rw [e]
  exact h x0 x1 o0 o1
theorem drosslaw02_AttrsetLevels_args {P : Program} (F : TF P) {xs : List D} (hx : TyAll P 1 [5] xs) : ∃ x0 : Int, (okI .u8) x0 ∧ xs = [.lit (.int .u8 x0)] := by
  simp only [TyAll] at hx
  obtain ⟨d0, _, rfl, h0, rfl⟩ := hx
  have g0 := tyA_one F.g5 h0
  obtain ⟨x0, o0, e0⟩ := (dec_int (k := 0) F.u5) _ g0
  obtain rfl := (List.cons.inj e0).1
  exact ⟨x0, o0, rfl⟩
abbrev drosslaw02_AttrsetLevels_F : Nat := 8
abbrev drosslaw02_AttrsetLevels_K : Nat := 1
abbrev drosslaw02_AttrsetLevels_T : List Nat := [5]
theorem drosslaw02_AttrsetLevels_of (h : ∀ x0 : Int, (okI .u8) x0 → Ret env 8 [.lit (.int .u8 x0)] (.lit (.bool true)) []) {xs : List D} (hx : TyAll env.P 1 [5] xs) : Ret env 8 xs (.lit (.bool true)) [] := by
  obtain ⟨x0, o0, e⟩ := drosslaw02_AttrsetLevels_args (P := env.P) tf hx
  rw [e]
  exact h x0 o0
theorem drosslaw02_AttrsetMinimal_args {P : Program} (F : TF P) {xs : List D} (hx : TyAll P 2 [42] xs) : ∃ x0 : List Int, (okL (okI .u32)) x0 ∧ xs = [.sl (x0.map (eI .u32))] := by
  simp only [TyAll] at hx
  obtain ⟨d0, _, rfl, h0, rfl⟩ := hx
  have g0 := tyA_one F.g42 h0
  obtain ⟨x0, o0, e0⟩ := (dec_slice (k := 0 + 1) F.u42 (dec_int (k := 0) F.u23)) _ g0
  obtain rfl := (List.cons.inj e0).1
  exact ⟨x0, o0, rfl⟩
abbrev drosslaw02_AttrsetMinimal_F : Nat := 9
abbrev drosslaw02_AttrsetMinimal_K : Nat := 2
abbrev drosslaw02_AttrsetMinimal_T : List Nat := [42]
theorem drosslaw02_AttrsetMinimal_of (h : ∀ x0 : List Int, (okL (okI .u32)) x0 → Ret env 9 [.sl (x0.map (eI .u32))] (.lit (.bool true)) []) {xs : List D} (hx : TyAll env.P 2 [42] xs) : Ret env 9 xs (.lit (.bool true)) [] := by
  obtain ⟨x0, o0, e⟩ := drosslaw02_AttrsetMinimal_args (P := env.P) tf hx
  rw [e]
  exact h x0 o0
theorem drosslaw02_AttrsetNames_args {P : Program} (F : TF P) {xs : List D} (hx : TyAll P 2 [23, 35] xs) : ∃ x0 : Int, ∃ x1 : List ByteArray, (okI .u32) x0 ∧ (okL okStr) x1 ∧ xs = [.lit (.int .u32 x0), .sl (x1.map eS)] := by
  simp only [TyAll] at hx
  obtain ⟨d0, _, rfl, h0, d1, _, rfl, h1, rfl⟩ := hx
  have g0 := tyA_one F.g23 h0
  obtain ⟨x0, o0, e0⟩ := (dec_int (k := 1) F.u23) _ g0
  obtain rfl := (List.cons.inj e0).1
  have g1 := tyA_one F.g35 h1
  obtain ⟨x1, o1, e1⟩ := (dec_slice (k := 0 + 1) F.u35 (dec_str (k := 0) F.u9)) _ g1
  obtain rfl := (List.cons.inj e1).1
  exact ⟨x0, x1, o0, o1, rfl⟩
abbrev drosslaw02_AttrsetNames_F : Nat := 10
abbrev drosslaw02_AttrsetNames_K : Nat := 2
abbrev drosslaw02_AttrsetNames_T : List Nat := [23, 35]
theorem drosslaw02_AttrsetNames_of (h : ∀ x0 : Int, ∀ x1 : List ByteArray, (okI .u32) x0 → (okL okStr) x1 → Ret env 10 [.lit (.int .u32 x0), .sl (x1.map eS)] (.lit (.bool true)) []) {xs : List D} (hx : TyAll env.P 2 [23, 35] xs) : Ret env 10 xs (.lit (.bool true)) [] := by
  obtain ⟨x0, x1, o0, o1, e⟩ := drosslaw02_AttrsetNames_args (P := env.P) tf hx
  rw [e]
  exact h x0 x1 o0 o1
theorem drosslaw02_AttrsetNamed_args {P : Program} (F : TF P) {xs : List D} (hx : TyAll P 2 [9, 35] xs) : ∃ x0 : ByteArray, ∃ x1 : List ByteArray, okStr x0 ∧ (okL okStr) x1 ∧ xs = [.lit (.string x0), .sl (x1.map eS)] := by
  simp only [TyAll] at hx
  obtain ⟨d0, _, rfl, h0, d1, _, rfl, h1, rfl⟩ := hx
  have g0 := tyA_one F.g9 h0
  obtain ⟨x0, o0, e0⟩ := (dec_str (k := 1) F.u9) _ g0
  obtain rfl := (List.cons.inj e0).1
  have g1 := tyA_one F.g35 h1
  obtain ⟨x1, o1, e1⟩ := (dec_slice (k := 0 + 1) F.u35 (dec_str (k := 0) F.u9)) _ g1
  obtain rfl := (List.cons.inj e1).1
  exact ⟨x0, x1, o0, o1, rfl⟩
abbrev drosslaw02_AttrsetNamed_F : Nat := 11
abbrev drosslaw02_AttrsetNamed_K : Nat := 2
abbrev drosslaw02_AttrsetNamed_T : List Nat := [9, 35]
theorem drosslaw02_AttrsetNamed_of (h : ∀ x0 : ByteArray, ∀ x1 : List ByteArray, okStr x0 → (okL okStr) x1 → Ret env 11 [.lit (.string x0), .sl (x1.map eS)] (.lit (.bool true)) []) {xs : List D} (hx : TyAll env.P 2 [9, 35] xs) : Ret env 11 xs (.lit (.bool true)) [] := by
  obtain ⟨x0, x1, o0, o1, e⟩ := drosslaw02_AttrsetNamed_args (P := env.P) tf hx
  rw [e]
  exact h x0 x1 o0 o1
theorem drosslaw02_AttrsetRestored_args {P : Program} (F : TF P) {xs : List D} (hx : TyAll P 2 [34, 35] xs) : ∃ x0 : Int, ∃ x1 : List ByteArray, (okI .u16) x0 ∧ (okL okStr) x1 ∧ xs = [.lit (.int .u16 x0), .sl (x1.map eS)] := by
  simp only [TyAll] at hx
  obtain ⟨d0, _, rfl, h0, d1, _, rfl, h1, rfl⟩ := hx
  have g0 := tyA_one F.g34 h0
  obtain ⟨x0, o0, e0⟩ := (dec_int (k := 1) F.u34) _ g0
  obtain rfl := (List.cons.inj e0).1
  have g1 := tyA_one F.g35 h1
  obtain ⟨x1, o1, e1⟩ := (dec_slice (k := 0 + 1) F.u35 (dec_str (k := 0) F.u9)) _ g1
  obtain rfl := (List.cons.inj e1).1
  exact ⟨x0, x1, o0, o1, rfl⟩
abbrev drosslaw02_AttrsetRestored_F : Nat := 4
abbrev drosslaw02_AttrsetRestored_K : Nat := 2
abbrev drosslaw02_AttrsetRestored_T : List Nat := [34, 35]
theorem drosslaw02_AttrsetRestored_of (h : ∀ x0 : Int, ∀ x1 : List ByteArray, (okI .u16) x0 → (okL okStr) x1 → Ret env 4 [.lit (.int .u16 x0), .sl (x1.map eS)] (.lit (.bool true)) []) {xs : List D} (hx : TyAll env.P 2 [34, 35] xs) : Ret env 4 xs (.lit (.bool true)) [] := by
  obtain ⟨x0, x1, o0, o1, e⟩ := drosslaw02_AttrsetRestored_args (P := env.P) tf hx
  rw [e]
  exact h x0 x1 o0 o1
theorem drosslaw02_AttrsetOf_args {P : Program} (F : TF P) {xs : List D} (hx : TyAll P 2 [22, 23] xs) : ∃ x0 : List Int, ∃ x1 : Int, (okL (okI .i64)) x0 ∧ (okI .u32) x1 ∧ xs = [.sl (x0.map (eI .i64)), .lit (.int .u32 x1)] := by
  simp only [TyAll] at hx
  obtain ⟨d0, _, rfl, h0, d1, _, rfl, h1, rfl⟩ := hx
  have g0 := tyA_one F.g22 h0
  obtain ⟨x0, o0, e0⟩ := (dec_slice (k := 0 + 1) F.u22 (dec_int (k := 0) F.u3)) _ g0
  obtain rfl := (List.cons.inj e0).1
  have g1 := tyA_one F.g23 h1
  obtain ⟨x1, o1, e1⟩ := (dec_int (k := 1) F.u23) _ g1
  obtain rfl := (List.cons.inj e1).1
  exact ⟨x0, x1, o0, o1, rfl⟩
abbrev drosslaw02_AttrsetOf_F : Nat := 3
abbrev drosslaw02_AttrsetOf_K : Nat := 2
abbrev drosslaw02_AttrsetOf_T : List Nat := [22, 23]
theorem drosslaw02_AttrsetOf_of (h : ∀ x0 : List Int, ∀ x1 : Int, (okL (okI .i64)) x0 → (okI .u32) x1 → Ret env 3 [.sl (x0.map (eI .i64)), .lit (.int .u32 x1)] (.lit (.bool true)) []) {xs : List D} (hx : TyAll env.P 2 [22, 23] xs) : Ret env 3 xs (.lit (.bool true)) [] := by
  obtain ⟨x0, x1, o0, o1, e⟩ := drosslaw02_AttrsetOf_args (P := env.P) tf hx
  rw [e]
  exact h x0 x1 o0 o1
end Go.Own
