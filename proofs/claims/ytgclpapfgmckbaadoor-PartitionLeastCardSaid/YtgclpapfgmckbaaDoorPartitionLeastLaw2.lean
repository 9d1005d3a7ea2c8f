/- What the functions that the law reaches answer. No conditions. -/
import Derived.Test.YtgclpapfgmckbaaDoorOwn24
import Derived.Test.YtgclpapfgmckbaaDoorBase2
import Derived.Test.YtgclpapfgmckbaaDoorBase3
set_option linter.all false

namespace Go.Own
open D
def enc_api_Table : Enc api_Table := fun x => [.lit (.string x.Name), .sl (x.Attrs.map eS), .sl (x.Rows.map enc_api_Row)]
def enc_api_Partition : Enc api_Partition := fun x => [.lit (.int .i64 x.Rows), .sl (x.Classes.map (eSl (eI .i64)))]
def enc_arr3_ListInt : Enc (List Int × List Int × List Int) := fun x => [.sl (x.1.map (eI .u8)), .sl (x.2.1.map (eI .u8)), .sl (x.2.2.map (eI .u8))]
def enc_drossref03_Recipe : Enc drossref03_Recipe := fun x => [.lit (.int .u8 x.Attrs), .lit (.int .u8 x.Gap), .sl (x.Rows.map (eSl (eI .u8)))]
def enc_arr2_ListInt : Enc (List Int × List Int) := fun x => [.sl (x.1.map (eI .u8)), .sl (x.2.map (eI .u8))]
def enc_api_FD : Enc api_FD := fun x => [.lit (.int .u32 x.Lhs), .lit (.int .u32 x.Rhs)]
structure TF (P : Program) : Prop where
  a41 : arrayT P 41 = some (3, 40)
  a53 : arrayT P 53 = some (2, 40)
  g25 : isAggT P 25 = true
  g27 : isAggT P 27 = false
  g31 : isAggT P 31 = true
  g41 : isAggT P 41 = true
  g47 : isAggT P 47 = true
  g5 : isAggT P 5 = false
  g53 : isAggT P 53 = true
  g56 : isAggT P 56 = true
  s25 : structTs P 25 = some [9, 22, 23]
  s31 : structTs P 31 = some [3, 29]
  s47 : structTs P 47 = some [5, 5, 45]
  s56 : structTs P 56 = some [27, 27]
  s67 : structTs P 67 = some [2, 65]
  s94 : structTs P 94 = some [3, 2, 9]
  u2 : P.underlying 2 = some (.int .i64)
  u22 : P.underlying 22 = some (.slice 9)
  u23 : P.underlying 23 = some (.slice 67)
  u27 : P.underlying 27 = some (.int .u32)
  u29 : P.underlying 29 = some (.slice 38)
  u3 : P.underlying 3 = some (.int .i64)
  u38 : P.underlying 38 = some (.slice 3)
  u40 : P.underlying 40 = some (.slice 5)
  u45 : P.underlying 45 = some (.slice 40)
  u5 : P.underlying 5 = some (.int .u8)
  u65 : P.underlying 65 = some (.slice 94)
  u9 : P.underlying 9 = some .string
theorem tf : TF env.P := ⟨by kernel_rfl, by kernel_rfl, by kernel_rfl, by kernel_rfl, by kernel_rfl, by kernel_rfl, by kernel_rfl, by kernel_rfl, by kernel_rfl, by kernel_rfl, by kernel_rfl, by kernel_rfl, by kernel_rfl, by kernel_rfl, by kernel_rfl, by kernel_rfl, by kernel_rfl, by kernel_rfl, by kernel_rfl, by kernel_rfl, by kernel_rfl, by kernel_rfl, by kernel_rfl, by kernel_rfl, by kernel_rfl, by kernel_rfl, by kernel_rfl, by kernel_rfl⟩
def ok_api_Value (x : api_Value) : Prop := (okI .i64) x.Kind ∧ (okI .i64) x.Num ∧ okStr x.Str
theorem dec_api_Value {P : Program} (F : TF P) (k : Nat) : Dec (Ty P (k + 2) 94) ok_api_Value enc_api_Value := fun ds h => by
  have h := ty_struct (k := k + 1) F.s94 h
  simp only [TyTs] at h
  obtain ⟨a0, _, rfl, h0, a1, _, rfl, h1, a2, _, rfl, h2, rfl⟩ := h
  obtain ⟨x0, o0, rfl⟩ := (dec_int (k := (k + 0)) F.u3) a0 h0
  obtain ⟨x1, o1, rfl⟩ := (dec_int (k := (k + 0)) F.u2) a1 h1
  obtain ⟨x2, o2, rfl⟩ := (dec_str (k := (k + 0)) F.u9) a2 h2
  exact ⟨⟨x0, x1, x2⟩, ⟨o0, o1, o2⟩, rfl⟩
def ok_api_Row (x : api_Row) : Prop := (okI .i64) x.ID ∧ (okL ok_api_Value) x.Values
theorem dec_api_Row {P : Program} (F : TF P) (k : Nat) : Dec (Ty P (k + 4) 67) ok_api_Row enc_api_Row := fun ds h => by
  have h := ty_struct (k := k + 3) F.s67 h
  simp only [TyTs] at h
  obtain ⟨a0, _, rfl, h0, a1, _, rfl, h1, rfl⟩ := h
  obtain ⟨x0, o0, rfl⟩ := (dec_int (k := (k + 2)) F.u2) a0 h0
  obtain ⟨x1, o1, rfl⟩ := (dec_slice (k := (k + 0) + 2) F.u65 (dec_api_Value F (k + 0))) a1 h1
  exact ⟨⟨x0, x1⟩, ⟨o0, o1⟩, rfl⟩
def ok_api_Table (x : api_Table) : Prop := okStr x.Name ∧ (okL okStr) x.Attrs ∧ (okL ok_api_Row) x.Rows
theorem dec_api_Table {P : Program} (F : TF P) (k : Nat) : Dec (Ty P (k + 6) 25) ok_api_Table enc_api_Table := fun ds h => by
  have h := ty_struct (k := k + 5) F.s25 h
  simp only [TyTs] at h
  obtain ⟨a0, _, rfl, h0, a1, _, rfl, h1, a2, _, rfl, h2, rfl⟩ := h
  obtain ⟨x0, o0, rfl⟩ := (dec_str (k := (k + 4)) F.u9) a0 h0
  obtain ⟨x1, o1, rfl⟩ := (dec_slice (k := (k + 3) + 1) F.u22 (dec_str (k := (k + 3)) F.u9)) a1 h1
  obtain ⟨x2, o2, rfl⟩ := (dec_slice (k := (k + 0) + 4) F.u23 (dec_api_Row F (k + 0))) a2 h2
  exact ⟨⟨x0, x1, x2⟩, ⟨o0, o1, o2⟩, rfl⟩
theorem drosslaw08_PartitionOf_args {P : Program} (F : TF P) {xs : List D} (hx : TyAll P 6 [25, 27] xs) : ∃ x0 : api_Table, ∃ x1 : Int, ok_api_Table x0 ∧ (okI .u32) x1 ∧ xs = [.agg (enc_api_Table x0), .lit (.int .u32 x1)] := by
  simp only [TyAll] at hx
  obtain ⟨d0, _, rfl, h0, d1, _, rfl, h1, rfl⟩ := hx
  obtain ⟨c0, rfl, g0⟩ := tyA_agg F.g25 h0
  obtain ⟨x0, o0, rfl⟩ := (dec_api_Table F 0) c0 g0
  have g1 := tyA_one F.g27 h1
  obtain ⟨x1, o1, e1⟩ := (dec_int (k := 5) F.u27) _ g1
  obtain rfl := (List.cons.inj e1).1
  exact ⟨x0, x1, o0, o1, rfl⟩
abbrev drosslaw08_PartitionOf_F : Nat := 3
abbrev drosslaw08_PartitionOf_K : Nat := 6
abbrev drosslaw08_PartitionOf_T : List Nat := [25, 27]
theorem drosslaw08_PartitionOf_of (h : ∀ x0 : api_Table, ∀ x1 : Int, ok_api_Table x0 → (okI .u32) x1 → Ret env 3 [.agg (enc_api_Table x0), .lit (.int .u32 x1)] (.lit (.bool true)) []) {xs : List D} (hx : TyAll env.P 6 [25, 27] xs) : Ret env 3 xs (.lit (.bool true)) [] := by
  obtain ⟨x0, x1, o0, o1, e⟩ := drosslaw08_PartitionOf_args (P := env.P) tf hx
  rw [e]
  exact h x0 x1 o0 o1
def ok_api_Partition (x : api_Partition) : Prop := (okI .i64) x.Rows ∧ (okL (okL (okI .i64))) x.Classes
theorem dec_api_Partition {P : Program} (F : TF P) (k : Nat) : Dec (Ty P (k + 4) 31) ok_api_Partition enc_api_Partition := fun ds h => by
  have h := ty_struct (k := k + 3) F.s31 h
  simp only [TyTs] at h
  obtain ⟨a0, _, rfl, h0, a1, _, rfl, h1, rfl⟩ := h
  obtain ⟨x0, o0, rfl⟩ := (dec_int (k := (k + 2)) F.u3) a0 h0
  obtain ⟨x1, o1, rfl⟩ := (dec_slice (k := (k + 0) + 2) F.u29 (dec_slice (k := (k + 0) + 1) F.u38 (dec_int (k := (k + 0)) F.u3))) a1 h1
  exact ⟨⟨x0, x1⟩, ⟨o0, o1⟩, rfl⟩
theorem drosslaw08_PartitionValid_args {P : Program} (F : TF P) {xs : List D} (hx : TyAll P 4 [31] xs) : ∃ x0 : api_Partition, ok_api_Partition x0 ∧ xs = [.agg (enc_api_Partition x0)] := by
  simp only [TyAll] at hx
  obtain ⟨d0, _, rfl, h0, rfl⟩ := hx
  obtain ⟨c0, rfl, g0⟩ := tyA_agg F.g31 h0
  obtain ⟨x0, o0, rfl⟩ := (dec_api_Partition F 0) c0 g0
  exact ⟨x0, o0, rfl⟩
abbrev drosslaw08_PartitionValid_F : Nat := 4
abbrev drosslaw08_PartitionValid_K : Nat := 4
abbrev drosslaw08_PartitionValid_T : List Nat := [31]
theorem drosslaw08_PartitionValid_of (h : ∀ x0 : api_Partition, ok_api_Partition x0 → Ret env 4 [.agg (enc_api_Partition x0)] (.lit (.bool true)) []) {xs : List D} (hx : TyAll env.P 4 [31] xs) : Ret env 4 xs (.lit (.bool true)) [] := by
  obtain ⟨x0, o0, e⟩ := drosslaw08_PartitionValid_args (P := env.P) tf hx
  rw [e]
  exact h x0 o0
def ok_arr3_41 (x : (List Int × List Int × List Int)) : Prop := (okL (okI .u8)) x.1 ∧ (okL (okI .u8)) x.2.1 ∧ (okL (okI .u8)) x.2.2
theorem dec_arr3_41 {P : Program} (F : TF P) (k : Nat) : Dec (Ty P (k + 3) 41) ok_arr3_41 enc_arr3_ListInt := fun ds h => by
  obtain ⟨ps, rfl, hl, hp⟩ := ty_array (k := k + 2) F.a41 h
  match ps, hl, hp with
  | [a0, a1, a2], _, hp =>
  have h0 := hp a0 (by simp)
  have h1 := hp a1 (by simp)
  have h2 := hp a2 (by simp)
  obtain ⟨x0, o0, rfl⟩ := (dec_slice (k := (k + 0) + 1) F.u40 (dec_int (k := (k + 0)) F.u5)) a0 h0
  obtain ⟨x1, o1, rfl⟩ := (dec_slice (k := (k + 0) + 1) F.u40 (dec_int (k := (k + 0)) F.u5)) a1 h1
  obtain ⟨x2, o2, rfl⟩ := (dec_slice (k := (k + 0) + 1) F.u40 (dec_int (k := (k + 0)) F.u5)) a2 h2
  exact ⟨⟨x0, x1, x2⟩, ⟨o0, o1, o2⟩, rfl⟩
theorem drosslaw08_PartitionLaws_args {P : Program} (F : TF P) {xs : List D} (hx : TyAll P 3 [41] xs) : ∃ x0 : (List Int × List Int × List Int), ok_arr3_41 x0 ∧ xs = [.agg (enc_arr3_ListInt x0)] := by
  simp only [TyAll] at hx
  obtain ⟨d0, _, rfl, h0, rfl⟩ := hx
  obtain ⟨c0, rfl, g0⟩ := tyA_agg F.g41 h0
  obtain ⟨x0, o0, rfl⟩ := (dec_arr3_41 F 0) c0 g0
  exact ⟨x0, o0, rfl⟩
abbrev drosslaw08_PartitionLaws_F : Nat := 5
abbrev drosslaw08_PartitionLaws_K : Nat := 3
abbrev drosslaw08_PartitionLaws_T : List Nat := [41]
theorem drosslaw08_PartitionLaws_of (h : ∀ x0 : (List Int × List Int × List Int), ok_arr3_41 x0 → Ret env 5 [.agg (enc_arr3_ListInt x0)] (.lit (.bool true)) []) {xs : List D} (hx : TyAll env.P 3 [41] xs) : Ret env 5 xs (.lit (.bool true)) [] := by
  obtain ⟨x0, o0, e⟩ := drosslaw08_PartitionLaws_args (P := env.P) tf hx
  rw [e]
  exact h x0 o0
def ok_drossref03_Recipe (x : drossref03_Recipe) : Prop := (okI .u8) x.Attrs ∧ (okI .u8) x.Gap ∧ (okL (okL (okI .u8))) x.Rows
theorem dec_drossref03_Recipe {P : Program} (F : TF P) (k : Nat) : Dec (Ty P (k + 4) 47) ok_drossref03_Recipe enc_drossref03_Recipe := fun ds h => by
  have h := ty_struct (k := k + 3) F.s47 h
  simp only [TyTs] at h
  obtain ⟨a0, _, rfl, h0, a1, _, rfl, h1, a2, _, rfl, h2, rfl⟩ := h
  obtain ⟨x0, o0, rfl⟩ := (dec_int (k := (k + 2)) F.u5) a0 h0
  obtain ⟨x1, o1, rfl⟩ := (dec_int (k := (k + 2)) F.u5) a1 h1
  obtain ⟨x2, o2, rfl⟩ := (dec_slice (k := (k + 0) + 2) F.u45 (dec_slice (k := (k + 0) + 1) F.u40 (dec_int (k := (k + 0)) F.u5))) a2 h2
  exact ⟨⟨x0, x1, x2⟩, ⟨o0, o1, o2⟩, rfl⟩
theorem drosslaw08_PartitionUnion_args {P : Program} (F : TF P) {xs : List D} (hx : TyAll P 4 [47, 5, 5] xs) : ∃ x0 : drossref03_Recipe, ∃ x1 : Int, ∃ x2 : Int, ok_drossref03_Recipe x0 ∧ (okI .u8) x1 ∧ (okI .u8) x2 ∧ xs = [.agg (enc_drossref03_Recipe x0), .lit (.int .u8 x1), .lit (.int .u8 x2)] := by
  simp only [TyAll] at hx
  obtain ⟨d0, _, rfl, h0, d1, _, rfl, h1, d2, _, rfl, h2, rfl⟩ := hx
  obtain ⟨c0, rfl, g0⟩ := tyA_agg F.g47 h0
  obtain ⟨x0, o0, rfl⟩ := (dec_drossref03_Recipe F 0) c0 g0
  have g1 := tyA_one F.g5 h1
  obtain ⟨x1, o1, e1⟩ := (dec_int (k := 3) F.u5) _ g1
  obtain rfl := (List.cons.inj e1).1
  have g2 := tyA_one F.g5 h2
  obtain ⟨x2, o2, e2⟩ := (dec_int (k := 3) F.u5) _ g2
  obtain rfl := (List.cons.inj e2).1
  exact ⟨x0, x1, x2, o0, o1, o2, rfl⟩
abbrev drosslaw08_PartitionUnion_F : Nat := 6
abbrev drosslaw08_PartitionUnion_K : Nat := 4
abbrev drosslaw08_PartitionUnion_T : List Nat := [47, 5, 5]
theorem drosslaw08_PartitionUnion_of (h : ∀ x0 : drossref03_Recipe, ∀ x1 : Int, ∀ x2 : Int, ok_drossref03_Recipe x0 → (okI .u8) x1 → (okI .u8) x2 → Ret env 6 [.agg (enc_drossref03_Recipe x0), .lit (.int .u8 x1), .lit (.int .u8 x2)] (.lit (.bool true)) []) {xs : List D} (hx : TyAll env.P 4 [47, 5, 5] xs) : Ret env 6 xs (.lit (.bool true)) [] := by
  obtain ⟨x0, x1, x2, o0, o1, o2, e⟩ := drosslaw08_PartitionUnion_args (P := env.P) tf hx
  rw [e]
  exact h x0 x1 x2 o0 o1 o2
theorem drosslaw08_PartitionRemoval_args {P : Program} (F : TF P) {xs : List D} (hx : TyAll P 4 [31, 31] xs) : ∃ x0 : api_Partition, ∃ x1 : api_Partition, ok_api_Partition x0 ∧ ok_api_Partition x1 ∧ xs = [.agg (enc_api_Partition x0), .agg (enc_api_Partition x1)] := by
  simp only [TyAll] at hx
  obtain ⟨d0, _, rfl, h0, d1, _, rfl, h1, rfl⟩ := hx
  obtain ⟨c0, rfl, g0⟩ := tyA_agg F.g31 h0
  obtain ⟨x0, o0, rfl⟩ := (dec_api_Partition F 0) c0 g0
  obtain ⟨c1, rfl, g1⟩ := tyA_agg F.g31 h1
  obtain ⟨x1, o1, rfl⟩ := (dec_api_Partition F 0) c1 g1
  exact ⟨x0, x1, o0, o1, rfl⟩
abbrev drosslaw08_PartitionRemoval_F : Nat := 7
abbrev drosslaw08_PartitionRemoval_K : Nat := 4
abbrev drosslaw08_PartitionRemoval_T : List Nat := [31, 31]
theorem drosslaw08_PartitionRemoval_of (h : ∀ x0 : api_Partition, ∀ x1 : api_Partition, ok_api_Partition x0 → ok_api_Partition x1 → Ret env 7 [.agg (enc_api_Partition x0), .agg (enc_api_Partition x1)] (.lit (.bool true)) []) {xs : List D} (hx : TyAll env.P 4 [31, 31] xs) : Ret env 7 xs (.lit (.bool true)) [] := by
  obtain ⟨x0, x1, o0, o1, e⟩ := drosslaw08_PartitionRemoval_args (P := env.P) tf hx
  rw [e]
  exact h x0 x1 o0 o1
def ok_arr2_53 (x : (List Int × List Int)) : Prop := (okL (okI .u8)) x.1 ∧ (okL (okI .u8)) x.2
theorem dec_arr2_53 {P : Program} (F : TF P) (k : Nat) : Dec (Ty P (k + 3) 53) ok_arr2_53 enc_arr2_ListInt := fun ds h => by
  obtain ⟨ps, rfl, hl, hp⟩ := ty_array (k := k + 2) F.a53 h
  match ps, hl, hp with
  | [a0, a1], _, hp =>
  have h0 := hp a0 (by simp)
  have h1 := hp a1 (by simp)
  obtain ⟨x0, o0, rfl⟩ := (dec_slice (k := (k + 0) + 1) F.u40 (dec_int (k := (k + 0)) F.u5)) a0 h0
  obtain ⟨x1, o1, rfl⟩ := (dec_slice (k := (k + 0) + 1) F.u40 (dec_int (k := (k + 0)) F.u5)) a1 h1
  exact ⟨⟨x0, x1⟩, ⟨o0, o1⟩, rfl⟩
theorem drosslaw08_PartitionLeast_args {P : Program} (F : TF P) {xs : List D} (hx : TyAll P 3 [53] xs) : ∃ x0 : (List Int × List Int), ok_arr2_53 x0 ∧ xs = [.agg (enc_arr2_ListInt x0)] := by
  simp only [TyAll] at hx
  obtain ⟨d0, _, rfl, h0, rfl⟩ := hx
  obtain ⟨c0, rfl, g0⟩ := tyA_agg F.g53 h0
  obtain ⟨x0, o0, rfl⟩ := (dec_arr2_53 F 0) c0 g0
  exact ⟨x0, o0, rfl⟩
abbrev drosslaw08_PartitionLeast_F : Nat := 8
abbrev drosslaw08_PartitionLeast_K : Nat := 3
abbrev drosslaw08_PartitionLeast_T : List Nat := [53]
theorem drosslaw08_PartitionLeast_of (h : ∀ x0 : (List Int × List Int), ok_arr2_53 x0 → Ret env 8 [.agg (enc_arr2_ListInt x0)] (.lit (.bool true)) []) {xs : List D} (hx : TyAll env.P 3 [53] xs) : Ret env 8 xs (.lit (.bool true)) [] := by
  obtain ⟨x0, o0, e⟩ := drosslaw08_PartitionLeast_args (P := env.P) tf hx
  rw [e]
  exact h x0 o0
theorem drosslaw08_PartitionProduct_args {P : Program} (F : TF P) {xs : List D} (hx : TyAll P 4 [31, 31] xs) : ∃ x0 : api_Partition, ∃ x1 : api_Partition, ok_api_Partition x0 ∧ ok_api_Partition x1 ∧ xs = [.agg (enc_api_Partition x0), .agg (enc_api_Partition x1)] := by
  simp only [TyAll] at hx
  obtain ⟨d0, _, rfl, h0, d1, _, rfl, h1, rfl⟩ := hx
  obtain ⟨c0, rfl, g0⟩ := tyA_agg F.g31 h0
  obtain ⟨x0, o0, rfl⟩ := (dec_api_Partition F 0) c0 g0
  obtain ⟨c1, rfl, g1⟩ := tyA_agg F.g31 h1
  obtain ⟨x1, o1, rfl⟩ := (dec_api_Partition F 0) c1 g1
  exact ⟨x0, x1, o0, o1, rfl⟩
abbrev drosslaw08_PartitionProduct_F : Nat := 9
abbrev drosslaw08_PartitionProduct_K : Nat := 4
abbrev drosslaw08_PartitionProduct_T : List Nat := [31, 31]
theorem drosslaw08_PartitionProduct_of (h : ∀ x0 : api_Partition, ∀ x1 : api_Partition, ok_api_Partition x0 → ok_api_Partition x1 → Ret env 9 [.agg (enc_api_Partition x0), .agg (enc_api_Partition x1)] (.lit (.bool true)) []) {xs : List D} (hx : TyAll env.P 4 [31, 31] xs) : Ret env 9 xs (.lit (.bool true)) [] := by
  obtain ⟨x0, x1, o0, o1, e⟩ := drosslaw08_PartitionProduct_args (P := env.P) tf hx
  rw [e]
  exact h x0 x1 o0 o1
def ok_api_FD (x : api_FD) : Prop := (okI .u32) x.Lhs ∧ (okI .u32) x.Rhs
theorem dec_api_FD {P : Program} (F : TF P) (k : Nat) : Dec (Ty P (k + 2) 56) ok_api_FD enc_api_FD := fun ds h => by
  have h := ty_struct (k := k + 1) F.s56 h
  simp only [TyTs] at h
  obtain ⟨a0, _, rfl, h0, a1, _, rfl, h1, rfl⟩ := h
  obtain ⟨x0, o0, rfl⟩ := (dec_int (k := (k + 0)) F.u27) a0 h0
  obtain ⟨x1, o1, rfl⟩ := (dec_int (k := (k + 0)) F.u27) a1 h1
  exact ⟨⟨x0, x1⟩, ⟨o0, o1⟩, rfl⟩
theorem drosslaw08_PartitionHolds_args {P : Program} (F : TF P) {xs : List D} (hx : TyAll P 6 [25, 56] xs) : ∃ x0 : api_Table, ∃ x1 : api_FD, ok_api_Table x0 ∧ ok_api_FD x1 ∧ xs = [.agg (enc_api_Table x0), .agg (enc_api_FD x1)] := by
  simp only [TyAll] at hx
  obtain ⟨d0, _, rfl, h0, d1, _, rfl, h1, rfl⟩ := hx
  obtain ⟨c0, rfl, g0⟩ := tyA_agg F.g25 h0
  obtain ⟨x0, o0, rfl⟩ := (dec_api_Table F 0) c0 g0
  obtain ⟨c1, rfl, g1⟩ := tyA_agg F.g56 h1
  obtain ⟨x1, o1, rfl⟩ := (dec_api_FD F 4) c1 g1
  exact ⟨x0, x1, o0, o1, rfl⟩
abbrev drosslaw08_PartitionHolds_F : Nat := 10
abbrev drosslaw08_PartitionHolds_K : Nat := 6
abbrev drosslaw08_PartitionHolds_T : List Nat := [25, 56]
theorem drosslaw08_PartitionHolds_of (h : ∀ x0 : api_Table, ∀ x1 : api_FD, ok_api_Table x0 → ok_api_FD x1 → Ret env 10 [.agg (enc_api_Table x0), .agg (enc_api_FD x1)] (.lit (.bool true)) []) {xs : List D} (hx : TyAll env.P 6 [25, 56] xs) : Ret env 10 xs (.lit (.bool true)) [] := by
  obtain ⟨x0, x1, o0, o1, e⟩ := drosslaw08_PartitionHolds_args (P := env.P) tf hx
  rw [e]
  exact h x0 x1 o0 o1
end Go.Own
