/- What the functions that the law reaches answer. No conditions. -/
import Derived.Test.YtgclpapfgmckbaaDoorPartitionHoldsLaw4
import Derived.Test.YtgclpapfgmckbaaDoorBase6
import Derived.Test.YtgclpapfgmckbaaDoorOwn15
import Derived.Test.YtgclpapfgmckbaaDoorBase2
import Derived.Test.YtgclpapfgmckbaaDoorOwn20
set_option linter.all false

namespace Go.Own
def maxc (l : List Int) : Int := (l.map fun a => (l.count a : Int)).foldr max 0
theorem foldr_max_le {l : List Int} {k : Int} : l.foldr max 0 ≤ k ↔ 0 ≤ k ∧ ∀ x ∈ l, x ≤ k := by
  induction l with
  | nil => simp
  | cons a l ih =>
    simp only [List.foldr_cons, List.forall_mem_cons]
    constructor
    · intro h; have := ih.1 (by omega); exact ⟨this.1, by omega, this.2⟩
    · rintro ⟨h1, h2, h3⟩; have := ih.2 ⟨h1, h3⟩; omega
theorem maxc_le {l : List Int} {k : Int} : maxc l ≤ k ↔ 0 ≤ k ∧ ∀ x ∈ l, (l.count x : Int) ≤ k := by
  unfold maxc
  rw [foldr_max_le]
  simp
theorem maxc_snoc {l : List Int} {a : Int} : maxc (l ++ [a]) = max (maxc l) ((l.count a : Int) + 1) := by
  have e : ∀ k, maxc (l ++ [a]) ≤ k ↔ max (maxc l) ((l.count a : Int) + 1) ≤ k := by
    intro k
    rw [Int.max_le, maxc_le, maxc_le]
    have hc : ∀ x, (l ++ [a]).count x = l.count x + if a = x then 1 else 0 := by
      intro x
      rw [List.count_append]
      congr 1
      by_cases h : a = x <;> simp [h]
    constructor
    · rintro ⟨h1, h2⟩
      refine ⟨⟨h1, fun x hx => ?_⟩, ?_⟩
      · have := h2 x (by simp [hx]); rw [hc] at this; split at this <;> omega
      · have := h2 a (by simp); rw [hc, if_pos rfl] at this; omega
    · rintro ⟨⟨h1, h2⟩, h3⟩
      refine ⟨h1, fun x hx => ?_⟩
      rw [hc]
      split
      · rename_i hax; subst hax; omega
      · have : x ∈ l := by
          rcases List.mem_append.1 hx with h | h
          · exact h
          · simp at h; rename_i hne; exact absurd h.symm hne
        have := h2 x this; omega
  have h1 := (e (max (maxc l) ((l.count a : Int) + 1))).2 (Int.le_refl _)
  have h2 := (e (maxc (l ++ [a]))).1 (Int.le_refl _)
  omega
theorem maxc_nonneg {l : List Int} : 0 ≤ maxc l := (maxc_le.1 (Int.le_refl _)).1
theorem maxc_len {l : List Int} : maxc l ≤ l.length := maxc_le.2 ⟨by omega, fun x _ => by have := List.count_le_length (a := x) (l := l); omega⟩
theorem maxc_map {f g : Int → Int} {c : List Int} (h : ∀ i ∈ c, ∀ j ∈ c, f i = f j ↔ g i = g j) : maxc (c.map f) = maxc (c.map g) := by
  unfold maxc
  rw [List.map_map, List.map_map]
  congr 1
  refine List.map_congr_left fun i hi => ?_
  simp only [Function.comp]
  congr 1
  rw [List.count_eq_countP, List.count_eq_countP, List.countP_map, List.countP_map]
  refine List.countP_congr fun j hj => ?_
  simp only [Function.comp, beq_iff_eq]
  exact h j hj i hi
theorem maxc_pos {l : List Int} (h : l ≠ []) : 1 ≤ maxc l := by
  match l, h with
  | a :: t, _ =>
    have := (maxc_le (l := a :: t) (k := maxc (a :: t))).1 (Int.le_refl _)
    have h2 := this.2 a (by simp)
    simp only [List.count_cons_self] at h2
    omega
def remS (r : List Int) : List (List Int) → Int
  | [] => 0
  | c :: cs => ((c.length : Int) - maxc (c.map (lab1 r))) + remS r cs
def removalF (x xa : api_Partition) : Int × Int := if bothF x xa = 0 then (remS (labF xa) x.Classes, 0) else (0, bothF x xa)
theorem mgetD_mset {k k' v : Int} : ∀ {l : List (Int × Int)}, mgetD k' (mset k v l) 0 = if k = k' then v else mgetD k' l 0
  | [] => by
    by_cases h : k = k'
    · subst h; simp [mgetD, mset, mget]
    · simp [mgetD, mset, mget, h, Ne.symm h]
  | (a, b) :: l => by
    have ih := mgetD_mset (k := k) (k' := k') (v := v) (l := l)
    simp only [mgetD] at ih ⊢
    simp only [mset]
    by_cases h1 : k = a
    · subst h1
      simp only [if_true, mget]
      by_cases h2 : k' = k
      · subst h2; simp
      · simp [h2, Ne.symm h2]
    · simp only [if_neg h1, mget]
      by_cases h2 : k' = a
      · subst h2; simp [h1]
      · simp only [if_neg h2]; exact ih
structure Lbl (x : api_Partition) (r : List Int) : Prop where
  has : ∀ c ∈ x.Classes, ∀ i ∈ c, ∃ a, lget r i = some a
namespace partition_Removal
theorem inner {x0 : api_Partition} {r : List Int} {φ : Int × Int → Prop} {y8 y26 : Int} {c : List Int} (hc : c.length ≤ 1001) (hl : ∀ i ∈ c, ∃ a, lget r i = some a) : ∀ (t : List Int) (k : Nat) (m : List (Int × Int)), c.drop k = t → (∀ a, mgetD a m 0 = (((c.take k).map (lab1 r)).count a : Int)) →
    L1 x0 r (IntKind.wrap .i64 (y8 + IntKind.wrap .i64 ((c.length : Int) - maxc (c.map (lab1 r))))) (IntKind.wrap .i64 (y26 + 1)) φ → L2 x0 r y8 c m (maxc ((c.take k).map (lab1 r))) y26 k φ
  | [], k, m, hd, hm, h => by
    apply L2_step
    have := drop_ge hd
    rw [if_neg (by omega)]
    rw [List.take_of_length_le this]
    exact h
  | i :: t, k, m, hd, hm, h => by
    apply L2_step
    have hk := drop_lt hd
    rw [if_pos (by omega)]
    obtain ⟨a, ha⟩ := hl i (List.mem_of_getElem? (drop_get hd))
    refine ⟨i, lget_drop hd, a, ha, ?_⟩
    have hcount : (((c.take k).map (lab1 r)).count a : Int) ≤ 1001 := by
      have := List.count_le_length (a := a) (l := (c.take k).map (lab1 r))
      rw [List.length_map, List.length_take] at this; omega
    have hnn : (0 : Int) ≤ (((c.take k).map (lab1 r)).count a : Int) := by omega
    rw [mgetD_mset, if_pos rfl, hm a, wrap_id (x := ((((c.take k).map (lab1 r)).count a : Int)) + 1) (by omega) (by omega), imax_eq, ← maxc_snoc]
    have htk : (c.take k).map (lab1 r) ++ [a] = (c.take (k + 1)).map (lab1 r) := by
      rw [List.take_add_one, drop_get hd]
      simp [lab1_of ha]
    rw [htk, wrap_succ (by omega)]
    refine inner hc hl t (k + 1) _ (drop_next hd) (fun b => ?_) h
    rw [mgetD_mset, ← htk, List.count_append]
    by_cases hab : a = b
    · subst hab; simp
    · rw [if_neg hab, hm b]; simp [hab]
theorem outer {x0 : api_Partition} {r : List Int} {φ : Int × Int → Prop} (hz : x0.Classes.length ≤ 1000 ∧ ∀ c ∈ x0.Classes, c.length ≤ 1001) (hl : Lbl x0 r) : ∀ (cs : List (List Int)) (k : Nat) (s : Int), x0.Classes.drop k = cs → 0 ≤ s → s ≤ 2000 * k → φ (s + remS r cs, 0) → L1 x0 r s k φ
  | [], k, s, hd, h1, h2, h => by
    apply L1_step
    have := drop_ge hd
    rw [if_neg (by omega)]
    simpa [remS] using h
  | c :: cs, k, s, hd, h1, h2, h => by
    apply L1_step
    have hk := drop_lt hd
    have hc : c ∈ x0.Classes := List.mem_of_getElem? (drop_get hd)
    rw [if_pos (by omega)]
    refine ⟨c, lget_drop hd, ?_⟩
    have := inner (x0 := x0) (φ := φ) (y8 := s) (y26 := k) (hz.2 c hc) (hl.has c hc) c 0 [] rfl (by simp [mgetD, mget])
    refine this ?_
    have hcl := hz.2 c hc
    have m1 := maxc_nonneg (l := c.map (lab1 r))
    have m2 := maxc_len (l := c.map (lab1 r))
    simp only [List.length_map] at m2
    rw [wrap_id (x := (c.length : Int) - maxc (c.map (lab1 r))) (by omega) (by omega), wrap_id (by omega) (by omega), wrap_succ (by omega)]
    refine outer hz hl cs (k + 1) _ (drop_next hd) (by omega) (by omega) ?_
    have e : s + ((c.length : Int) - maxc (c.map (lab1 r))) + remS r cs = s + remS r (c :: cs) := by simp only [remS]; omega
    rw [e]; exact h
theorem spec0 {x xa : api_Partition} (hx : Small x) (ha : Small xa) : C x xa (if bothF x xa = 0 then (remS (labN xa) x.Classes, 0) else (0, bothF x xa)) := by
  obtain ⟨r, h1, h2⟩ := enter x xa (fun r => r = if bothF x xa = 0 then (remS (labN xa) x.Classes, 0) else (0, bothF x xa)) (by
    refine ⟨_, partition_both.spec hx ha, ?_⟩
    split
    · rename_i hb
      have hb' := hb
      unfold bothF at hb
      split at hb
      · rename_i hv
        split at hb
        · rename_i hva
          split at hb
          · rename_i hr
            refine ⟨labN xa, partition_labels.spec ha hva, ?_⟩
            refine outer (sizes hv) ⟨fun c hc i hi => ?_⟩ x.Classes 0 0 rfl (by omega) (by omega) ?_
            · have := (valid_iff.1 hv).2.2.inn c hc i hi
              exact lget_lt this.1 (by rw [labN_len]; omega)
            · rw [Int.zero_add]
          · omega
        · omega
      · omega
    · rfl)
  rw [← h1]; exact h2
end partition_Removal
theorem remS_eq {x : List (List Int)} {r r' : List Int} (h : ∀ c ∈ x, ∀ i ∈ c, ∀ j ∈ c, lab1 r i = lab1 r j ↔ lab1 r' i = lab1 r' j) : remS r x = remS r' x := by
  induction x with
  | nil => rfl
  | cons c cs ih =>
    simp only [remS]
    rw [ih fun d hd => h d (by simp [hd]), maxc_map (h c (by simp))]
theorem removal_same {x xa : api_Partition} (hb : bothF x xa = 0) : remS (labN xa) x.Classes = remS (labF xa) x.Classes := by
  unfold bothF at hb
  split at hb
  · rename_i hv
    split at hb
    · rename_i hva
      split at hb
      · rename_i hr
        refine remS_eq fun c hc i hi j hj => ?_
        have h1 := (valid_iff.1 hv).2.2.inn c hc i hi
        have h2 := (valid_iff.1 hv).2.2.inn c hc j hj
        rw [hr] at h1 h2
        rw [lab1_iff (by rw [labN_len]; omega) (by rw [labN_len]; omega), lab1_iff (by rw [labF_len]; omega) (by rw [labF_len]; omega), labN_same hva h1 h2, labF_same hva h1 h2]
      · omega
    · omega
  · omega
theorem partition_Removal.spec {x xa : api_Partition} (hx : Small x) (ha : Small xa) : partition_Removal.C x xa (removalF x xa) := by
  have := partition_Removal.spec0 hx ha
  unfold removalF
  split
  · rename_i hb
    rw [if_pos hb, removal_same hb] at this; exact this
  · rename_i hb
    rw [if_neg hb] at this; exact this
namespace drossref08_Removal
theorem cnt {x0 : api_Partition} {r : List Int} {φ : Int × Int → Prop} {y7 : Int} {y8 best : Int} {c : List Int} {k : Nat} {ik ak : Int} (hc : c.length ≤ 1001) (hl : ∀ i ∈ c, ∃ a, lget r i = some a) (hik : c[k]? = some ik) (hak : lget r ik = some ak) : ∀ (t : List Int) (j : Nat) (n : Int), c.drop j = t → 0 ≤ n → n ≤ j →
    L2 x0 r y7 y8 c (max best (n + ((t.map (lab1 r)).count ak : Int))) (IntKind.wrap .i64 ((k : Int) + 1)) φ → L3 x0 r y7 y8 c best k n j φ
  | [], j, n, hd, h1, h2, h => by
    apply L3_step
    have := drop_ge hd
    rw [if_neg (by omega), imax_eq]
    simpa using h
  | i :: t, j, n, hd, h1, h2, h => by
    apply L3_step
    have hj := drop_lt hd
    rw [if_pos (by omega)]
    obtain ⟨a, ha⟩ := hl i (List.mem_of_getElem? (drop_get hd))
    refine ⟨i, lget_drop hd, a, ha, ik, by rw [lget_nat]; exact hik, ak, hak, ?_⟩
    have e : ((i :: t).map (lab1 r)).count ak = (if a = ak then 1 else 0) + (t.map (lab1 r)).count ak := by
      simp only [List.map_cons, List.count_cons, lab1_of ha, beq_iff_eq]; split <;> omega
    rw [e] at h
    split
    · rename_i hh
      rw [if_pos hh] at h
      apply L4_step
      rw [wrap_succ (by omega), wrap_id (by omega) (by omega)]
      refine cnt hc hl hik hak t (j + 1) (n + 1) (drop_next hd) (by omega) (by omega) ?_
      have e2 : n + (((1 + (t.map (lab1 r)).count ak : Nat)) : Int) = n + 1 + ((t.map (lab1 r)).count ak : Int) := by omega
      rw [e2] at h; exact h
    · rename_i hh
      rw [if_neg hh] at h
      apply L4_step
      rw [wrap_succ (by omega)]
      refine cnt hc hl hik hak t (j + 1) n (drop_next hd) h1 (by omega) ?_
      rw [Nat.zero_add] at h; exact h
theorem best {x0 : api_Partition} {r : List Int} {φ : Int × Int → Prop} {y7 : Int} {y8 : Int} {c : List Int} (hc : c.length ≤ 1001) (hl : ∀ i ∈ c, ∃ a, lget r i = some a) : ∀ (t : List Int) (k : Nat) (b : Int), c.drop k = t →
    L1 x0 r (IntKind.wrap .i64 ((IntKind.wrap .i64 (y7 + (c.length : Int))) - (t.map fun i => ((c.map (lab1 r)).count (lab1 r i) : Int)).foldl max b)) (IntKind.wrap .i64 (y8 + 1)) φ → L2 x0 r y7 y8 c b k φ
  | [], k, b, hd, h => by
    apply L2_step
    have := drop_ge hd
    rw [if_neg (by omega)]
    exact h
  | i :: t, k, b, hd, h => by
    apply L2_step
    have hk := drop_lt hd
    rw [if_pos (by omega)]
    obtain ⟨a, ha⟩ := hl i (List.mem_of_getElem? (drop_get hd))
    refine cnt hc hl (drop_get hd) ha c 0 0 rfl (by omega) (by omega) ?_
    rw [wrap_succ (by omega), Int.zero_add]
    refine best hc hl t (k + 1) _ (drop_next hd) ?_
    simp only [List.map_cons, List.foldl_cons, lab1_of ha] at h
    exact h
theorem foldl_max {l : List Int} : ∀ {b : Int}, 0 ≤ b → l.foldl max b = max b (l.foldr max 0) := by
  induction l with
  | nil => intro b hb; simp; omega
  | cons a l ih =>
    intro b hb
    simp only [List.foldl_cons, List.foldr_cons]
    rw [ih (by omega)]; omega
theorem outer {x0 : api_Partition} {r : List Int} {φ : Int × Int → Prop} (hz : x0.Classes.length ≤ 1000 ∧ ∀ c ∈ x0.Classes, c.length ≤ 1001) (hl : Lbl x0 r) : ∀ (cs : List (List Int)) (k : Nat) (s : Int), x0.Classes.drop k = cs → 0 ≤ s → s ≤ 2000 * k → φ (s + remS r cs, 0) → L1 x0 r s k φ
  | [], k, s, hd, h1, h2, h => by
    apply L1_step
    have := drop_ge hd
    rw [if_neg (by omega)]
    simpa [remS] using h
  | c :: cs, k, s, hd, h1, h2, h => by
    apply L1_step
    have hk := drop_lt hd
    have hc : c ∈ x0.Classes := List.mem_of_getElem? (drop_get hd)
    rw [if_pos (by omega)]
    refine ⟨c, lget_drop hd, ?_⟩
    refine best (hz.2 c hc) (hl.has c hc) c 0 0 rfl ?_
    have hmc : (c.map fun i => ((c.map (lab1 r)).count (lab1 r i) : Int)).foldl max 0 = maxc (c.map (lab1 r)) := by
      rw [foldl_max (Int.le_refl 0)]
      have := maxc_nonneg (l := c.map (lab1 r))
      unfold maxc at this ⊢
      rw [List.map_map] at this ⊢
      exact Int.max_eq_right this
    rw [hmc]
    have hcl := hz.2 c hc
    have m1 := maxc_nonneg (l := c.map (lab1 r))
    have m2 := maxc_len (l := c.map (lab1 r))
    simp only [List.length_map] at m2
    rw [wrap_id (x := s + (c.length : Int)) (by omega) (by omega), wrap_id (by omega) (by omega), wrap_succ (by omega)]
    refine outer hz hl cs (k + 1) _ (drop_next hd) (by omega) (by omega) ?_
    have e : s + (c.length : Int) - maxc (c.map (lab1 r)) + remS r cs = s + remS r (c :: cs) := by simp only [remS]; omega
    rw [e]; exact h
theorem spec {x xa : api_Partition} (hx : Small x) (ha : Small xa) : C x xa (removalF x xa) := by
  obtain ⟨r, h1, h2⟩ := enter x xa (fun r => r = removalF x xa) (by
    refine ⟨_, drossref08_Valid.spec hx, ?_⟩
    unfold removalF
    split
    · rename_i hv
      refine ⟨_, drossref08_Valid.spec ha, ?_⟩
      split
      · rename_i hva
        split
        · rename_i hr
          rw [if_pos (by simp [bothF, hv, hva, hr])]
          refine ⟨labF xa, drossref08_Labels.spec ha hva, ?_⟩
          refine outer (sizes hv) ⟨fun c hc i hi => ?_⟩ x.Classes 0 0 rfl (by omega) (by omega) ?_
          · have := (valid_iff.1 hv).2.2.inn c hc i hi
            exact lget_lt this.1 (by rw [labF_len]; omega)
          · rw [Int.zero_add]
        · rename_i hr
          rw [if_neg (by simp [bothF, hv, hva, hr])]
          simp [bothF, hv, hva, hr]
      · rename_i hva
        rw [if_neg (by simp [bothF, hv, hva])]
        simp [bothF, hv, hva]
    · rename_i hv
      rw [if_neg (by simp [bothF, hv])]
      simp [bothF, hv])
  rw [← h1]; exact h2
end drossref08_Removal
end Go.Own

namespace Go.Own
open Go.Proofs D
set_option maxRecDepth 100000
set_option maxHeartbeats 4000000
namespace partition_Holds
noncomputable def B : Code := (Tryd.f28.body).getD .skip
def W : List Nat := [0, 1, 2, 3, 4, 5, 6, 10, 19]
def res (r : Bool × Int) : D × List D := (.tup [.lit (.bool r.1), .lit (.int .i64 r.2)], [])
def C (x0 : api_Table) (x1 : api_FD) (r : Bool × Int) : Prop := Ret env 28 [.agg [.lit (.string x0.Name), .sl (x0.Attrs.map eS), .sl (x0.Rows.map enc_api_Row)], .agg [.lit (.int .u32 x1.Lhs), .lit (.int .u32 x1.Rhs)]] (res r).1 (res r).2
theorem enter (x0 : api_Table) (x1 : api_FD) (φ : Bool × Int → Prop) (h :
    ∃ r1 : Int, table_Valid.C x0 r1 ∧
    (if r1 = 0 then
      ∃ r2 : Bool, partition_within.C x0 ((bOr .u32 x1.Lhs x1.Rhs)) r2 ∧
      (if r2 = true then
        ∃ r3 : api_Partition, partition_of.C x0 x1.Lhs r3 ∧
        ∃ r4 : api_Partition, partition_of.C x0 x1.Rhs r4 ∧
        ∃ r5 : Bool, partition_Refines.C r3 r4 r5 ∧
        φ ((r5, 0))
      else
        φ ((false, 6)))
    else
      φ ((false, r1)))) : ∃ r, φ r ∧ C x0 x1 r :=
 mEnt (fd := Tryd.f28) (body := B) (V := W) (res := res) <|
 mCal 8 h (fun _ h => h) fun r1 _ h =>
 mAskN 4 h bne_t bne_f (fun h =>
 mRet 7 h) fun h =>
 mCalB 10 h (fun _ h => h) (fun _ h =>
 mLo 8 h (fun _ h => h) fun r3 _ h =>
 mCal 3 h (fun _ h => h) fun r4 _ h =>
 mCal 0 h (fun _ h => h) fun r5 _ h =>
 mRet 3 h) fun _ h =>
 mRet 7 h
end partition_Holds
end Go.Own

namespace Go.Own
open Go.Proofs D
set_option maxRecDepth 100000
set_option maxHeartbeats 4000000
namespace drossref08_Satisfies
noncomputable def B : Code := (Tryd.f48.body).getD .skip
def W : List Nat := [0, 1, 2, 3, 4, 5, 6, 11, 16, 47]
def res (r : Bool) : D × List D := (.lit (.bool r), [])
def C (x0 : api_Table) (x1 : api_FD) (r : Bool) : Prop := Ret env 48 [.agg [.lit (.string x0.Name), .sl (x0.Attrs.map eS), .sl (x0.Rows.map enc_api_Row)], .agg [.lit (.int .u32 x1.Lhs), .lit (.int .u32 x1.Rhs)]] (res r).1 (res r).2
def L1 (x0 : api_Table) (x1 : api_FD) (y5_L1 : Int) (φ : Bool → Prop) : Prop := Pt env 48 W B [1, 0, 1, 0] [(0, .agg [.lit (.string x0.Name), .sl (x0.Attrs.map eS), .sl (x0.Rows.map enc_api_Row)]), (1, .agg [.lit (.int .u32 x1.Lhs), .lit (.int .u32 x1.Rhs)]), (2, .box [.lit (.string x0.Name), .sl (x0.Attrs.map eS), .sl (x0.Rows.map enc_api_Row)]), (3, .box [.lit (.int .u32 x1.Lhs), .lit (.int .u32 x1.Rhs)]), (5, .lit (.int .i64 y5_L1))] (Lv env 48 Tryd.f48 2 res φ)
def L2 (x0 : api_Table) (x1 : api_FD) (y5_L2 : Int) (y6_L2 : Int) (φ : Bool → Prop) : Prop := Pt env 48 W B [1, 0, 1, 0, 0, 1, 0, 0, 1, 0] [(0, .agg [.lit (.string x0.Name), .sl (x0.Attrs.map eS), .sl (x0.Rows.map enc_api_Row)]), (1, .agg [.lit (.int .u32 x1.Lhs), .lit (.int .u32 x1.Rhs)]), (2, .box [.lit (.string x0.Name), .sl (x0.Attrs.map eS), .sl (x0.Rows.map enc_api_Row)]), (3, .box [.lit (.int .u32 x1.Lhs), .lit (.int .u32 x1.Rhs)]), (5, .lit (.int .i64 y5_L2)), (6, .lit (.int .i64 y6_L2))] (Lv env 48 Tryd.f48 2 res φ)
def L3 (x0 : api_Table) (x1 : api_FD) (y5_L3 : Int) (y6_L2 : Int) (φ : Bool → Prop) : Prop := Pt env 48 W B [1, 0, 1, 0, 0, 1, 0, 0, 1, 0, 0, 1, 1] [(0, .agg [.lit (.string x0.Name), .sl (x0.Attrs.map eS), .sl (x0.Rows.map enc_api_Row)]), (1, .agg [.lit (.int .u32 x1.Lhs), .lit (.int .u32 x1.Rhs)]), (2, .box [.lit (.string x0.Name), .sl (x0.Attrs.map eS), .sl (x0.Rows.map enc_api_Row)]), (3, .box [.lit (.int .u32 x1.Lhs), .lit (.int .u32 x1.Rhs)]), (5, .lit (.int .i64 y5_L3)), (6, .lit (.int .i64 y6_L2))] (Lv env 48 Tryd.f48 2 res φ)
theorem L1_step (x0 : api_Table) (x1 : api_FD) (y5_L1 : Int) (φ : Bool → Prop) (h :
    (if y5_L1 < (x0.Rows.length : Int) then
      drossref08_Satisfies.L2 x0 x1 y5_L1 0 φ
    else
      φ true)) : L1 x0 x1 y5_L1 φ :=
 mIn <|
 mLen 5 enc_api_Row x0.Rows <|
 mAsk 0 h dT dF (fun h =>
 mFin 6 h) fun h =>
 mRet 6 h
theorem L2_step (x0 : api_Table) (x1 : api_FD) (y5_L2 : Int) (y6_L2 : Int) (φ : Bool → Prop) (h :
    (if y6_L2 < y5_L2 then
      ∃ a1, lget x0.Rows y5_L2 = some a1 ∧
      ∃ a3, lget x0.Rows y6_L2 = some a3 ∧
      ∃ r5 : Bool, drossref03_Agree.C a1 a3 x1.Lhs r5 ∧
      (if r5 = true then
        ∃ r6 : Bool, drossref03_Agree.C a1 a3 x1.Rhs r6 ∧
        (if r6 = true then
          drossref08_Satisfies.L3 x0 x1 y5_L2 y6_L2 φ
        else
          φ false)
      else
        drossref08_Satisfies.L3 x0 x1 y5_L2 y6_L2 φ)
    else
      drossref08_Satisfies.L1 x0 x1 ((IntKind.wrap .i64 (y5_L2 + 1))) φ)) : L2 x0 x1 y5_L2 y6_L2 φ :=
 mIn <|
 mAsk 4 h dT dF (fun h =>
 mIx 7 enc_api_Row h fun a1 h2 h =>
 mIx 4 enc_api_Row h fun a3 h4 h =>
 mCalB 3 h (fun _ h => h) (fun _ h =>
 mIxf 4 enc_api_Row h2 <|
 mIxf 4 enc_api_Row h4 <|
 mCalB 3 h (fun _ h => h) (fun _ h =>
 mFin 5 h) fun _ h =>
 mRet 7 h) fun _ h =>
 mFin 19 h) fun h =>
 mFin 8 h
theorem L3_step (x0 : api_Table) (x1 : api_FD) (y5_L3 : Int) (y6_L2 : Int) (φ : Bool → Prop) (h :
    drossref08_Satisfies.L2 x0 x1 y5_L3 ((IntKind.wrap .i64 (y6_L2 + 1))) φ) : L3 x0 x1 y5_L3 y6_L2 φ :=
 mIn <|
 mFin 5 h
theorem enter (x0 : api_Table) (x1 : api_FD) (φ : Bool → Prop) (h :
    drossref08_Satisfies.L1 x0 x1 0 φ) : ∃ r, φ r ∧ C x0 x1 r :=
 mEnt (fd := Tryd.f48) (body := B) (V := W) (res := res) <|
 mFin 8 h
end drossref08_Satisfies
end Go.Own

namespace Go.Own
open Go.Proofs D
set_option maxRecDepth 100000
set_option maxHeartbeats 4000000
namespace drossref08_Holds
noncomputable def B : Code := (Tryd.f29.body).getD .skip
def W : List Nat := [0, 1, 2, 3, 4, 5, 6, 10, 22]
def res (r : Bool × Int) : D × List D := (.tup [.lit (.bool r.1), .lit (.int .i64 r.2)], [])
def C (x0 : api_Table) (x1 : api_FD) (r : Bool × Int) : Prop := Ret env 29 [.agg [.lit (.string x0.Name), .sl (x0.Attrs.map eS), .sl (x0.Rows.map enc_api_Row)], .agg [.lit (.int .u32 x1.Lhs), .lit (.int .u32 x1.Rhs)]] (res r).1 (res r).2
theorem enter (x0 : api_Table) (x1 : api_FD) (φ : Bool × Int → Prop) (h :
    ∃ r1 : Int, drossref03_Valid.C x0 r1 ∧
    (if r1 = 0 then
      ∃ r2 : Int, drossref02_Full.C ((x0.Attrs.length : Int)) r2 ∧
      (if (bAndNot .u32 (bOr .u32 x1.Lhs x1.Rhs) r2) = 0 then
        ∃ r3 : Bool, drossref08_Satisfies.C x0 x1 r3 ∧
        φ ((r3, 0))
      else
        φ ((false, 6)))
    else
      φ ((false, r1)))) : ∃ r, φ r ∧ C x0 x1 r :=
 mEnt (fd := Tryd.f29) (body := B) (V := W) (res := res) <|
 mCal 8 h (fun _ h => h) fun r1 _ h =>
 mAskN 4 h bne_t bne_f (fun h =>
 mRet 7 h) fun h =>
 mLen 11 eS x0.Attrs <|
 mLo 0 h (fun _ h => h) fun r2 _ h =>
 mAskN 1 h bne_t bne_f (fun h =>
 mRet 6 h) fun h =>
 mCal 6 h (fun _ h => h) fun r3 _ h =>
 mRet 3 h
end drossref08_Holds
end Go.Own

namespace Go.Own
open Go.Proofs D
set_option maxRecDepth 100000
set_option maxHeartbeats 4000000
namespace partition_Rank
noncomputable def B : Code := (Tryd.f17.body).getD .skip
def W : List Nat := [0, 1, 2, 3, 5, 8, 12, 13, 14, 15]
def res (r : Int) : D × List D := (.lit (.int .i64 r), [])
def C (x0 : api_Partition) (r : Int) : Prop := Ret env 17 [.agg [.lit (.int .i64 x0.Rows), .sl (x0.Classes.map (eSl (eI .i64)))]] (res r).1 (res r).2
def L1 (x0 : api_Partition) (y3_L1 : Int) (y14_L1 : Int) (φ : Int → Prop) : Prop := Pt env 17 W B [1, 1, 1, 0, 1, 0] [(0, .agg [.lit (.int .i64 x0.Rows), .sl (x0.Classes.map (eSl (eI .i64)))]), (1, .box [.lit (.int .i64 x0.Rows), .sl (x0.Classes.map (eSl (eI .i64)))]), (3, .lit (.int .i64 y3_L1)), (12, .sl (x0.Classes.map (eSl (eI .i64)))), (13, .lit (.int .i64 ((x0.Classes.length : Int)))), (14, .lit (.int .i64 y14_L1))] (Lv env 17 Tryd.f17 1 res φ)
theorem L1_step (x0 : api_Partition) (y3_L1 : Int) (y14_L1 : Int) (φ : Int → Prop) (h :
    (if y14_L1 < (x0.Classes.length : Int) then
      ∃ a2, lget x0.Classes y14_L1 = some a2 ∧
      partition_Rank.L1 x0 ((IntKind.wrap .i64 (y3_L1 - (IntKind.wrap .i64 ((a2.length : Int) - 1))))) ((IntKind.wrap .i64 (y14_L1 + 1))) φ
    else
      φ y3_L1)) : L1 x0 y3_L1 y14_L1 φ :=
 mIn <|
 mAsk 2 h dT dF (fun h =>
 mIx 4 (eSl (eI .i64)) h fun a2 h3 h =>
 mLen 6 (eI .i64) a2 <|
 mFin 8 h) fun h =>
 mRet 7 h
theorem enter (x0 : api_Partition) (φ : Int → Prop) (h :
    ∃ r1 : Bool, partition_Valid.C x0 r1 ∧
    (if r1 = true then
      partition_Rank.L1 x0 x0.Rows 0 φ
    else
      φ 0)) : ∃ r, φ r ∧ C x0 r :=
 mEnt (fd := Tryd.f17) (body := B) (V := W) (res := res) <|
 mCalB 6 h (fun _ h => h) (fun _ h =>
 mLen 12 (eSl (eI .i64)) x0.Classes <|
 mFin 2 h) fun _ h =>
 mRet 6 h
end partition_Rank
end Go.Own

namespace Go.Own
open Go.Proofs D
set_option maxRecDepth 100000
set_option maxHeartbeats 4000000
namespace drossref08_Rank
noncomputable def B : Code := (Tryd.f18.body).getD .skip
def W : List Nat := [0, 1, 2, 3, 4, 5, 8, 14, 22]
def res (r : Int) : D × List D := (.lit (.int .i64 r), [])
def C (x0 : api_Partition) (r : Int) : Prop := Ret env 18 [.agg [.lit (.int .i64 x0.Rows), .sl (x0.Classes.map (eSl (eI .i64)))]] (res r).1 (res r).2
def L1 (x0 : api_Partition) (r2 : List Int) (y4_L1 : Int) (y5_L1 : Int) (φ : Int → Prop) : Prop := Pt env 18 W B [1, 1, 1, 1, 0, 1, 0] [(0, .agg [.lit (.int .i64 x0.Rows), .sl (x0.Classes.map (eSl (eI .i64)))]), (1, .box [.lit (.int .i64 x0.Rows), .sl (x0.Classes.map (eSl (eI .i64)))]), (3, .own (r2.map (eI .i64))), (4, .lit (.int .i64 y4_L1)), (5, .lit (.int .i64 y5_L1))] (Lv env 18 Tryd.f18 1 res φ)
def L2 (x0 : api_Partition) (r2 : List Int) (y4_L2 : Int) (y5_L1 : Int) (φ : Int → Prop) : Prop := Pt env 18 W B [1, 1, 1, 1, 0, 1, 0, 0, 1, 1] [(0, .agg [.lit (.int .i64 x0.Rows), .sl (x0.Classes.map (eSl (eI .i64)))]), (1, .box [.lit (.int .i64 x0.Rows), .sl (x0.Classes.map (eSl (eI .i64)))]), (3, .own (r2.map (eI .i64))), (4, .lit (.int .i64 y4_L2)), (5, .lit (.int .i64 y5_L1))] (Lv env 18 Tryd.f18 1 res φ)
theorem L1_step (x0 : api_Partition) (r2 : List Int) (y4_L1 : Int) (y5_L1 : Int) (φ : Int → Prop) (h :
    (if y5_L1 < x0.Rows then
      ∃ a3, lget r2 y5_L1 = some a3 ∧
      (if a3 = y5_L1 then
        drossref08_Rank.L2 x0 r2 ((IntKind.wrap .i64 (y4_L1 + 1))) y5_L1 φ
      else
        drossref08_Rank.L2 x0 r2 y4_L1 y5_L1 φ)
    else
      φ y4_L1)) : L1 x0 r2 y4_L1 y5_L1 φ :=
 mIn <|
 mAsk 5 h dT dF (fun h =>
 mIy 6 (eI .i64) h fun a3 h4 h =>
 mLd 0 (eI .i64) h4 <|
 mAsk 1 h beq_t beq_f (fun h =>
 mFin 7 h) fun h =>
 mFin 3 h) fun h =>
 mRet 7 h
theorem L2_step (x0 : api_Partition) (r2 : List Int) (y4_L2 : Int) (y5_L1 : Int) (φ : Int → Prop) (h :
    drossref08_Rank.L1 x0 r2 y4_L2 ((IntKind.wrap .i64 (y5_L1 + 1))) φ) : L2 x0 r2 y4_L2 y5_L1 φ :=
 mIn <|
 mFin 5 h
theorem enter (x0 : api_Partition) (φ : Int → Prop) (h :
    ∃ r1 : Bool, drossref08_Valid.C x0 r1 ∧
    (if r1 = true then
      ∃ r2 : List Int, drossref08_Labels.C x0 r2 ∧
      drossref08_Rank.L1 x0 r2 0 0 φ
    else
      φ 0)) : ∃ r, φ r ∧ C x0 r :=
 mEnt (fd := Tryd.f18) (body := B) (V := W) (res := res) <|
 mCalB 6 h (fun _ h => h) (fun _ h =>
 mCal 6 h (fun _ h => h) (hf := (fun _ => clF_flat (flat_ow (e := (eI .i64)) (fun _ => rfl)) rfl)) fun r2 _ h =>
 mFin 8 h) fun _ h =>
 mRet 6 h
end drossref08_Rank
end Go.Own

namespace Go.Own
namespace partition_Rank
theorem loop {x0 : api_Partition} {φ : Int → Prop} (hb : Small x0) : ∀ (cs : List (List Int)) (k : Nat) (r first : Int) (s : List Bool), x0.Classes.drop k = cs → (s.length : Int) = x0.Rows → okClasses x0.Rows first s cs = true → (free s : Int) ≤ 1000 → -1000 ≤ r - free s → r ≤ 1000 →
    φ (r - extra cs) → L1 x0 r k φ
  | [], k, r, first, s, hd, hs, ho, h1, h2, h3, h => by
    apply L1_step
    have := drop_ge hd
    rw [if_neg (by omega)]
    simpa [extra] using h
  | c :: cs, k, r, first, s, hd, hs, ho, h1, h2, h3, h => by
    apply L1_step
    have hk := drop_lt hd
    rw [if_pos (by omega)]
    refine ⟨c, lget_drop hd, ?_⟩
    obtain ⟨a, b, t, s', hc, h4, h5, h6⟩ := okClasses_inv ho
    have h7 := okClass_free (by omega) hs h5
    have hcl : 2 ≤ c.length := by rw [hc]; simp
    have hB := hb.1
    unfold Big at hB
    rw [wrap_id (x := (c.length : Int) - 1) (by omega) (by omega), wrap_id (by omega) (by omega), wrap_succ (by omega)]
    refine loop hb cs (k + 1) _ a s' (drop_next hd) (by rw [okClass_len h5]; exact hs) h6 (by omega) (by omega) (by omega) ?_
    have : r - ((c.length : Int) - 1) - extra cs = r - extra (c :: cs) := by simp only [extra]; omega
    rw [this]; exact h
theorem spec {x0 : api_Partition} (hb : Small x0) : C x0 (rankF x0) := by
  obtain ⟨r, h1, h2⟩ := enter x0 (fun r => r = rankF x0) (by
    refine ⟨validF x0, partition_Valid.spec hb, ?_⟩
    unfold rankF
    split
    · rename_i hv
      obtain ⟨v1, v2, v3⟩ := valid_ok hv
      have hf := free_replicate x0.Rows.toNat
      refine loop hb x0.Classes 0 x0.Rows (-1) _ rfl (by simp; omega) v3 ?_ ?_ (by omega) rfl
      · rw [hf]; omega
      · rw [hf]; omega
    · rfl)
  rw [← h1]; exact h2
end partition_Rank
namespace drossref08_Rank
theorem loop {x0 : api_Partition} {l : List Int} {φ : Int → Prop} (h0 : x0.Rows ≤ 1000) (hl : (l.length : Int) = x0.Rows) : ∀ (r : List Int) (k : Nat) (n : Int), l.drop k = r → 0 ≤ n → n ≤ k → φ (n + cnt k r) → L1 x0 l n k φ
  | [], k, n, hd, h1, h2, h => by
    apply L1_step
    have := drop_ge hd
    rw [if_neg (by omega)]
    simpa [cnt] using h
  | x :: r, k, n, hd, h1, h2, h => by
    apply L1_step
    have hk := drop_lt hd
    rw [if_pos (by omega)]
    refine ⟨x, lget_drop hd, ?_⟩
    simp only [cnt] at h
    split
    · rename_i hx
      rw [if_pos hx] at h
      apply L2_step
      rw [wrap_succ (by omega), wrap_id (by omega) (by omega)]
      refine loop h0 hl r (k + 1) _ (drop_next hd) (by omega) (by omega) ?_
      rw [Int.add_assoc]; exact h
    · rename_i hx
      rw [if_neg hx, Int.zero_add] at h
      apply L2_step
      rw [wrap_succ (by omega)]
      exact loop h0 hl r (k + 1) _ (drop_next hd) h1 (by omega) h
theorem spec {x0 : api_Partition} (hb : Small x0) : C x0 (rankF x0) := by
  obtain ⟨r, h1, h2⟩ := enter x0 (fun r => r = rankF x0) (by
    refine ⟨validF x0, drossref08_Valid.spec hb, ?_⟩
    unfold rankF
    split
    · rename_i hv
      obtain ⟨v1, v2, v3⟩ := valid_ok hv
      refine ⟨labF x0, drossref08_Labels.spec hb hv, ?_⟩
      refine loop v2 ?_ (labF x0) 0 0 rfl (by omega) (by omega) ?_
      · unfold labF; rw [labCl_len, iota_len]; omega
      · rw [labF_cnt hv, Int.zero_add]
    · rfl)
  rw [← h1]; exact h2
end drossref08_Rank
end Go.Own

namespace Go.Own
open Go.Proofs D
set_option maxRecDepth 100000
set_option maxHeartbeats 4000000
namespace drosslaw08_awake
noncomputable def B : Code := (Tryd.f11.body).getD .skip
def W : List Nat := [0, 1, 2, 3, 4, 5, 6, 7, 8]
def res (r : Bool) : D × List D := (.lit (.bool r), [])
def C  (r : Bool) : Prop := Ret env 11 [] (res r).1 (res r).2
end drosslaw08_awake
end Go.Own

namespace Go.Own
set_option maxRecDepth 1000000
theorem drosslaw08_awake.run : callN env 400 11 [] = some (.lit (.bool true), []) := by kernel_rfl
theorem drosslaw08_awake.spec : drosslaw08_awake.C true := Ret.of drosslaw08_awake.run
end Go.Own

namespace Go.Own
open Go.Proofs D
set_option maxRecDepth 100000
set_option maxHeartbeats 4000000
namespace drosslaw08_PartitionHolds
noncomputable def B : Code := (Tryd.f10.body).getD .skip
def W : List Nat := [0, 1, 2, 3, 4, 5, 6, 7, 8, 9, 10, 11, 12, 13, 14, 22, 47]
def res (r : Bool) : D × List D := (.lit (.bool r), [])
def C (x0 : api_Table) (x1 : api_FD) (r : Bool) : Prop := Ret env 10 [.agg [.lit (.string x0.Name), .sl (x0.Attrs.map eS), .sl (x0.Rows.map enc_api_Row)], .agg [.lit (.int .u32 x1.Lhs), .lit (.int .u32 x1.Rhs)]] (res r).1 (res r).2
def L2  (φ : Bool → Prop) : Prop := Pt env 10 W B [1, 0, 1, 0, 0] [] (Lv env 10 Tryd.f10 2 res φ)
def L1 (r7 : Bool × Int) (r8 : Bool × Int) (φ : Bool → Prop) : Prop := Pt env 10 W B [1, 1, 1, 1, 0, 1, 0, 0] [(5, .lit (.bool r7.1)), (6, .lit (.int .i64 r7.2)), (7, .lit (.bool r8.1)), (8, .lit (.int .i64 r8.2))] (Lv env 10 Tryd.f10 2 res φ)
theorem L2_step  (φ : Bool → Prop) (h :
    ∃ r26 : Bool, drosslaw08_awake.C  r26 ∧
    φ r26) : L2  φ :=
 mIn <|
 mCal 1 h (fun _ h => h) fun r26 _ h =>
 mRet 2 h
theorem L1_step (r7 : Bool × Int) (r8 : Bool × Int) (φ : Bool → Prop) (h :
    (if r7.1 = r8.1 then
      φ ((r7.2 == r8.2))
    else
      φ false)) : L1 r7 r8 φ :=
 mIn <|
 mAsk 3 h bbeq_t bbeq_f (fun h =>
 mRet 7 h) fun h =>
 mRet 7 h
theorem enter (x0 : api_Table) (x1 : api_FD) (φ : Bool → Prop) (h :
    ∃ r16 : Bool, drosslaw08_awake.C  r16 ∧
    (if r16 = true then
      (if 12 < (x0.Rows.length : Int) then
        drosslaw08_PartitionHolds.L2  φ
      else
        ∃ r17 : Bool × Int, partition_Holds.C x0 x1 r17 ∧
        ∃ r18 : Bool × Int, drossref08_Holds.C x0 x1 r18 ∧
        (if r17.1 = r18.1 then
          (if r17.2 = r18.2 then
            (if r17.2 = 0 then
              ∃ r19 : api_Partition × Int, partition_Of.C x0 x1.Lhs r19 ∧
              ∃ r20 : api_Partition × Int, partition_Of.C x0 x1.Rhs r20 ∧
              ∃ r21 : api_Partition × Int, partition_Of.C x0 ((bOr .u32 x1.Lhs x1.Rhs)) r21 ∧
              ∃ r22 : Int × Int, partition_Removal.C r19.1 r21.1 r22 ∧
              (if r19.2 = 0 then
                (if r20.2 = 0 then
                  (if r21.2 = 0 then
                    (if r22.2 = 0 then
                      ∃ r23 : Bool, partition_Refines.C r19.1 r20.1 r23 ∧
                      (if r23 = r17.1 then
                        ∃ r24 : Int, partition_Rank.C r19.1 r24 ∧
                        ∃ r25 : Int, partition_Rank.C r21.1 r25 ∧
                        (if (r24 == r25) = r17.1 then
                          φ (((r22.1 == 0) == r17.1))
                        else
                          φ false)
                      else
                        φ false)
                    else
                      φ false)
                  else
                    φ false)
                else
                  φ false)
              else
                φ false)
            else
              drosslaw08_PartitionHolds.L1 r17 r18 φ)
          else
            drosslaw08_PartitionHolds.L1 r17 r18 φ)
        else
          drosslaw08_PartitionHolds.L1 r17 r18 φ))
    else
      drosslaw08_PartitionHolds.L2  φ)) : ∃ r, φ r ∧ C x0 x1 r :=
 mEnt (fd := Tryd.f10) (body := B) (V := W) (res := res) <|
 mCalB 6 h (fun _ h => h) (fun _ h =>
 mLen 4 enc_api_Row x0.Rows <|
 mAsk 0 h dT dF (fun h =>
 mFin 3 h) fun h =>
 mCal 7 h (fun _ h => h) (hf := (fun _ => clF_flat (flat_tup (flts_cons rfl (flts_cons rfl flts_nil))) rfl)) fun r17 _ h =>
 mCal 9 h (fun _ h => h) (hf := (fun _ => clF_flat (flat_tup (flts_cons rfl (flts_cons rfl flts_nil))) rfl)) fun r18 _ h =>
 mAskN 9 h bbne_t bbne_f (fun h =>
 mFin 11 h) fun h =>
 mAskN 3 h bne_t bne_f (fun h =>
 mFin 7 h) fun h =>
 mAskN 3 h bne_t bne_f (fun h =>
 mFin 3 h) fun h =>
 mCal 8 h (fun _ h => h) fun r19 _ h =>
 mCal 11 h (fun _ h => h) fun r20 _ h =>
 mCal 14 h (fun _ h => h) fun r21 _ h =>
 mCal 10 h (fun _ h => h) (hf := (fun _ => clF_flat (flat_tup (flts_cons rfl (flts_cons rfl flts_nil))) rfl)) fun r22 _ h =>
 mAsk 8 h beq_t beq_f (fun h =>
 mAsk 2 h beq_t beq_f (fun h =>
 mAsk 3 h beq_t beq_f (fun h =>
 mAsk 3 h beq_t beq_f (fun h =>
 mLo 4 h (fun _ h => h) fun r23 _ h =>
 mAsk 1 h bbeq_t bbeq_f (fun h =>
 mLo 3 h (fun _ h => h) fun r24 _ h =>
 mLo 1 h (fun _ h => h) fun r25 _ h =>
 mAsk 2 h bbeq_t bbeq_f (fun h =>
 mRet 9 h) fun h =>
 mRet 9 h) fun h =>
 mRet 18 h) fun h =>
 mRet 25 h) fun h =>
 mRet 29 h) fun h =>
 mRet 33 h) fun h =>
 mRet 36 h) fun _ h =>
 mFin 9 h
end drosslaw08_PartitionHolds
end Go.Own
