/- What the functions that the law reaches answer. No conditions. -/
import Derived.Test.YtgclpapfgmckbaaDoorPartitionLawsLaw3
import Derived.Test.YtgclpapfgmckbaaDoorPartitionLawsLaw1
set_option linter.all false

namespace Go.Own
namespace drossref02_Ints
theorem loop {x0 x1 : List Int} {φ : Bool → Prop} (hn : x0.length < Big) (hl : x0.length = x1.length) : ∀ (r s : List Int) (k : Nat), x0.drop k = r → x1.drop k = s → φ (decide (r = s)) → L1 x0 x1 k φ
  | [], s, k, hd, he, h => by
    apply L1_step
    have := drop_ge hd
    rw [if_neg (by omega)]
    have : s = [] := by rw [← he]; exact List.drop_eq_nil_of_le (by omega)
    simpa [this] using h
  | a :: r, s, k, hd, he, h => by
    apply L1_step
    have hk := drop_lt hd
    rw [if_pos (by omega)]
    match s, he, h with
    | [], he, h => have := drop_ge he; omega
    | b :: s, he, h =>
      refine ⟨a, lget_drop hd, b, lget_drop he, ?_⟩
      split
      · rename_i hab
        rw [wrap_succ (by unfold Big at hn; omega)]
        refine loop hn hl r s (k + 1) (drop_next hd) (drop_next he) ?_
        simpa [hab] using h
      · rename_i hab
        simpa [hab] using h
theorem spec {x0 x1 : List Int} (hn : x0.length < Big) : C x0 x1 (decide (x0 = x1)) := by
  obtain ⟨r, h1, h2⟩ := enter x0 x1 (fun r => r = decide (x0 = x1)) (by
    split
    · rename_i h
      exact loop (φ := fun r => r = decide (x0 = x1)) hn (by omega) x0 x1 0 rfl rfl rfl
    · rename_i h
      have : x0 ≠ x1 := fun e => h (by rw [e])
      simp [this])
  rw [← h1]; exact h2
end drossref02_Ints
namespace drossref08_Same
theorem loop {x0 x1 : api_Partition} {φ : Bool → Prop} (hn : Small x0) (hl : x0.Classes.length = x1.Classes.length) : ∀ (r s : List (List Int)) (k : Nat), x0.Classes.drop k = r → x1.Classes.drop k = s → φ (decide (r = s)) → L1 x0 x1 k φ
  | [], s, k, hd, he, h => by
    apply L1_step
    have := drop_ge hd
    rw [if_neg (by omega)]
    have : s = [] := by rw [← he]; exact List.drop_eq_nil_of_le (by omega)
    simpa [this] using h
  | a :: r, s, k, hd, he, h => by
    apply L1_step
    have hk := drop_lt hd
    rw [if_pos (by omega)]
    match s, he, h with
    | [], he, h => have := drop_ge he; omega
    | b :: s, he, h =>
      refine ⟨a, lget_drop hd, b, lget_drop he, _, drossref02_Ints.spec (hn.2 a (List.mem_of_getElem? (drop_get hd))), ?_⟩
      split
      · rename_i hab
        have hab : a = b := by simpa using hab
        rw [wrap_succ (by have := hn.1; unfold Big at this; omega)]
        refine loop hn hl r s (k + 1) (drop_next hd) (drop_next he) ?_
        simpa [hab] using h
      · rename_i hab
        have hab : a ≠ b := by simpa using hab
        simpa [hab] using h
theorem spec {x0 x1 : api_Partition} (hn : Small x0) : C x0 x1 (decide (x0 = x1)) := by
  obtain ⟨r, h1, h2⟩ := enter x0 x1 (fun r => r = decide (x0 = x1)) (by
    obtain ⟨r0, c0⟩ := x0
    obtain ⟨r1, c1⟩ := x1
    simp only [api_Partition.mk.injEq]
    split
    · rename_i h
      split
      · rename_i h2
        refine loop (x0 := ⟨r0, c0⟩) (x1 := ⟨r1, c1⟩) (φ := fun r => r = decide (r0 = r1 ∧ c0 = c1)) hn (by simp only; omega) c0 c1 0 rfl rfl ?_
        simp [h]
      · rename_i h2
        have : c0 ≠ c1 := fun e => h2 (by rw [e])
        simp [this]
    · rename_i h
      simp [h])
  rw [← h1]; exact h2
end drossref08_Same
theorem zip_alike {α β : Type} [DecidableEq α] [DecidableEq β] {l : List α} {m : List β} (hl : l.length = m.length) (h : ∀ i j : Nat, i < l.length → j < l.length → (l[i]? = l[j]? ↔ m[i]? = m[j]?)) : part l = part m := by
  unfold part
  rw [grpF_alike (l := l) (m := m) ⟨hl, h⟩, hl]
theorem zip_get {γ δ : Type} {u : List γ} {v : List δ} {i j : Nat} (h : u.length = v.length) (hi : i < u.length) (hj : j < u.length) : ((u.zip v)[i]? = (u.zip v)[j]? ↔ u[i]? = u[j]? ∧ v[i]? = v[j]?) := by
  rw [List.getElem?_eq_getElem (by simp only [List.length_zip]; omega), List.getElem?_eq_getElem (by simp only [List.length_zip]; omega), List.getElem?_eq_getElem (l := u) (by omega), List.getElem?_eq_getElem (l := u) (i := j) (by omega), List.getElem?_eq_getElem (l := v) (by omega), List.getElem?_eq_getElem (l := v) (i := j) (by omega)]
  simp
namespace drosslaw08_PartitionLaws
theorem again {φ : Bool → Prop} (h : φ true) : L1 φ := L1_step φ ⟨true, drosslaw08_awake.spec, h⟩
theorem spec {l0 l1 l2 : List Int} (r0 : ∀ x ∈ l0, 0 ≤ x ∧ x < 256) (r1 : ∀ x ∈ l1, 0 ≤ x ∧ x < 256) (r2 : ∀ x ∈ l2, 0 ≤ x ∧ x < 256) : C (l0, l1, l2) true := by
  obtain ⟨r, h1, h2⟩ := enter (l0, l1, l2) (fun r => r = true) (by
    refine ⟨true, drosslaw08_awake.spec, ?_⟩
    rw [if_pos rfl]
    split
    · exact again rfl
    · rename_i hn
      simp only at hn ⊢
      split
      · rename_i e1
        split
        · rename_i e2
          have n0 : l0.length ≤ 1000 := by omega
          have n1 : l1.length = l0.length := by omega
          have n2 : l2.length = l0.length := by omega
          have P : ∀ {α β : Type} [DecidableEq α] [DecidableEq β] {l : List α} {m : List β}, l.length ≤ 1000 → m.length = l.length → partition_Product.C (part l) (part m) (part (l.zip m), 0) := by
            intro α β _ _ l m hl hm
            have := partition_Product.spec (part_small hl) (part_small (l := m) (by omega))
            rw [prod_part hl hm] at this
            exact this
          refine ⟨_, drossref08_From.spec (by omega) r0, _, drossref08_From.spec (by omega) r1, _, drossref08_From.spec (by omega) r2, _, P n0 n1, _, P (l := l1) (m := l0) (by omega) (by omega), _, P (l := l1) (m := l2) (by omega) (by omega), _, P (l := l0.zip l1) (m := l2) (by simp only [List.length_zip]; omega) (by simp only [List.length_zip]; omega), _, P (l := l0) (m := l1.zip l2) n0 (by simp only [List.length_zip]; omega), _, P n0 rfl, ?_⟩
          simp only [if_true]
          refine ⟨_, drossref08_Same.spec (part_small (by simp only [List.length_zip]; omega)), ?_⟩
          have q1 : part (l0.zip l1) = part (l1.zip l0) := by
            refine zip_alike (by simp only [List.length_zip]; omega) fun i j hi hj => ?_
            simp only [List.length_zip] at hi hj
            rw [zip_get (by omega) (by omega) (by omega), zip_get (by omega) (by omega) (by omega)]
            exact And.comm
          have q2 : part ((l0.zip l1).zip l2) = part (l0.zip (l1.zip l2)) := by
            refine zip_alike (by simp only [List.length_zip]; omega) fun i j hi hj => ?_
            simp only [List.length_zip] at hi hj
            rw [zip_get (by simp only [List.length_zip]; omega) (by simp only [List.length_zip]; omega) (by simp only [List.length_zip]; omega), zip_get (by omega) (by omega) (by omega), zip_get (by simp only [List.length_zip]; omega) (by omega) (by omega), zip_get (by omega) (by omega) (by omega)]
            exact and_assoc
          have q3 : part (l0.zip l0) = part l0 := by
            refine zip_alike (by simp) fun i j hi hj => ?_
            simp only [List.length_zip] at hi hj
            rw [zip_get rfl (by omega) (by omega)]
            exact and_self_iff
          rw [if_pos (by simp [q1])]
          refine ⟨_, drossref08_Same.spec (part_small (by simp only [List.length_zip]; omega)), ?_⟩
          rw [if_pos (by simp [q2])]
          refine ⟨_, drossref08_Same.spec (part_small (by simp only [List.length_zip]; omega)), ?_⟩
          have q3' : part (l0.zip l0) = ⟨l0.length, grpF l0⟩ := q3
          simp [q3']
        · exact again rfl
      · exact again rfl)
  subst h1; exact h2
theorem law {xs : List D} (hx : TyAll env.P 3 [41] xs) : Ret env 5 xs (.lit (.bool true)) [] :=
  drosslaw08_PartitionLaws_of (fun x0 h0 => by
    obtain ⟨l0, l1, l2⟩ := x0
    obtain ⟨h0, h1, h2⟩ := h0
    have cv : ∀ {l : List Int}, okL (okI .u8) l → ∀ x ∈ l, 0 ≤ x ∧ x < 256 := fun h x hx => by
      have := h.2 x hx
      simp only [okI, IntKind.min, IntKind.max] at this
      exact ⟨this.1, by have := this.2; simp [IntKind.bits] at this; omega⟩
    exact spec (cv h0) (cv h1) (cv h2)) hx
end drosslaw08_PartitionLaws
end Go.Own
