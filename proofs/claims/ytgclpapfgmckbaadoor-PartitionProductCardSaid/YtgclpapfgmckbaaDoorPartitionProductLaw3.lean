/- What the functions that the law reaches answer. No conditions. -/
import Derived.Test.YtgclpapfgmckbaaDoorPartitionProductLaw2
import Derived.Test.YtgclpapfgmckbaaDoorBase6
import Derived.Test.YtgclpapfgmckbaaDoorOwn15
import Derived.Test.YtgclpapfgmckbaaDoorBase2
set_option linter.all false

namespace Go.Own
theorem partition_groups_2_int_1.spec {c : List Int} : partition_groups_2_int_1.C c (decide ((c.length : Int) < 2)) := by
  obtain ⟨r, h1, h2⟩ := partition_groups_2_int_1.enter c (fun r => r = decide ((c.length : Int) < 2)) rfl
  rw [← h1]; exact h2
def keepC (c : List Int) : Bool := decide (2 ≤ c.length)
theorem keepC_iff {c : List Int} : decide ((c.length : Int) < 2) = !keepC c := by
  unfold keepC
  by_cases h : (c.length : Int) < 2
  · have : ¬ 2 ≤ c.length := by omega
    simp [h, this]
  · have : 2 ≤ c.length := by omega
    simp [h, this]
def firstOut : List (List Int) → Nat → Int
  | [], _ => -1
  | c :: cs, k => if keepC c then firstOut cs (k + 1) else (k : Int)
namespace slices_IndexFunc_ssint_sint_v1
theorem loop {x0 : List (List Int)} {φ : Int → Prop} (hn : x0.length < Big) : ∀ (r : List (List Int)) (k : Nat), x0.drop k = r → φ (firstOut r k) → L1 x0 k φ
  | [], k, hd, h => by
    apply L1_step
    have := drop_ge hd
    rw [if_neg (by omega)]
    exact h
  | c :: r, k, hd, h => by
    apply L1_step
    have hk := drop_lt hd
    rw [if_pos (by omega)]
    refine ⟨c, lget_drop hd, _, partition_groups_2_int_1.spec, ?_⟩
    rw [keepC_iff]
    simp only [firstOut] at h
    split
    · rename_i h1
      have : keepC c = false := by simpa using h1
      rw [this] at h; exact h
    · rename_i h1
      have : keepC c = true := by simpa using h1
      rw [this] at h
      rw [wrap_succ (by unfold Big at hn; omega)]
      exact loop hn r (k + 1) (drop_next hd) h
theorem spec {x0 : List (List Int)} (hn : x0.length < Big) : C x0 (firstOut x0 0) := by
  obtain ⟨r, h1, h2⟩ := enter x0 (fun r => r = firstOut x0 0) (loop hn x0 0 rfl rfl)
  rw [← h1]; exact h2
end slices_IndexFunc_ssint_sint_v1
theorem firstOut_spec : ∀ {l : List (List Int)} {k : Nat}, (firstOut l k = -1 ∧ ∀ c ∈ l, keepC c = true) ∨ ∃ n : Nat, firstOut l k = ((k + n : Nat) : Int) ∧ n < l.length ∧ (∀ c ∈ l.take n, keepC c = true) ∧ ∃ c, l[n]? = some c ∧ keepC c = false
  | [], _ => .inl ⟨rfl, by simp⟩
  | c :: l, k => by
    simp only [firstOut]
    cases hc : keepC c with
    | false => exact .inr ⟨0, by simp, by simp, by simp, c, rfl, hc⟩
    | true =>
      simp only [if_true]
      rcases firstOut_spec (l := l) (k := k + 1) with ⟨h1, h2⟩ | ⟨n, h1, h2, h3, h4⟩
      · exact .inl ⟨h1, by simpa [hc] using h2⟩
      · refine .inr ⟨n + 1, by rw [h1]; congr 1; omega, by simpa using h2, by simpa [hc] using h3, by simpa using h4⟩
namespace slices_DeleteFunc_ssint_sint_v1
theorem loop {x0 : List (List Int)} {φ : List (List Int) × Bool → Prop} (hn : x0.length < Big) (hφ : ∀ b, φ (x0.filter keepC, b)) : ∀ (r : List (List Int)) (k j : Nat) (l : List (List Int)), x0.drop k = r → l.length = x0.length → l.drop k = x0.drop k → l.take j = (x0.take k).filter keepC → j ≤ k → k ≤ x0.length → L1 l j k φ
  | [], k, j, l, hd, hl, h1, h2, h3, h4 => by
    apply L1_step
    have hk := drop_ge hd
    rw [if_neg (by omega)]
    refine ⟨by omega, ⟨by omega, by omega⟩, by omega, by omega, by omega, by omega, ⟨by omega, by omega, by omega⟩, ?_⟩
    rw [Int.toNat_natCast, h2, List.take_of_length_le hk]
    exact hφ _
  | c :: r, k, j, l, hd, hl, h1, h2, h3, h4 => by
    apply L1_step
    have hk := drop_lt hd
    rw [if_pos (by omega)]
    have hlk : l.drop k = c :: r := by rw [h1, hd]
    refine ⟨c, lget_drop hlk, _, partition_groups_2_int_1.spec, ?_⟩
    rw [keepC_iff]
    have htk : x0.take (k + 1) = x0.take k ++ [c] := by rw [List.take_add_one, drop_get hd]; rfl
    split
    · rename_i hc
      have hc : keepC c = false := by simpa using hc
      apply L2_step
      rw [wrap_succ (by unfold Big at hn; omega)]
      refine loop hn hφ r (k + 1) j l (drop_next hd) hl ?_ ?_ (by omega) (by omega)
      · rw [drop_next hlk, drop_next hd]
      · rw [htk, List.filter_append, h2]; simp [hc]
    · rename_i hc
      have hc : keepC c = true := by simpa using hc
      obtain ⟨a, ha⟩ := lget_lt (l := l) (i := (j : Int)) (by omega) (by omega)
      refine ⟨a, ha, ?_⟩
      apply L2_step
      rw [wrap_succ (by unfold Big at hn; omega), wrap_succ (by unfold Big at hn; omega)]
      have hs : lset l (j : Int) c = l.set j c := by simp [lset]
      rw [hs]
      refine loop hn hφ r (k + 1) (j + 1) (l.set j c) (drop_next hd) (by simp [hl]) ?_ ?_ (by omega) (by omega)
      · rw [List.drop_set_of_lt (by omega), drop_next hlk, drop_next hd]
      · rw [htk, List.filter_append, ← h2, List.take_add_one]
        have e1 : (l.set j c)[j]? = some c := by rw [List.getElem?_set_self (by omega)]
        rw [e1, List.take_set_of_le (by omega)]
        simp [hc]
theorem spec {x0 : List (List Int)} (hn : x0.length < Big) : ∃ b, C x0 (x0.filter keepC, b) := by
  obtain ⟨r, h1, h2⟩ := enter x0 (fun r => r.1 = x0.filter keepC) (by
    refine ⟨_, slices_IndexFunc_ssint_sint_v1.spec hn, ?_⟩
    rcases firstOut_spec (l := x0) (k := 0) with ⟨h1, h2⟩ | ⟨n, h1, h2, h3, c, h4, h5⟩
    · rw [if_pos h1]
      exact (List.filter_eq_self.2 h2).symm
    · rw [if_neg (by omega), h1, Nat.zero_add, wrap_succ (by unfold Big at hn; omega)]
      refine loop (φ := fun r => r.1 = x0.filter keepC) hn (fun b => rfl) _ (n + 1) n x0 rfl rfl rfl ?_ (by omega) (by omega)
      have htk : x0.take (n + 1) = x0.take n ++ [c] := by rw [List.take_add_one, h4]; rfl
      rw [htk, List.filter_append, List.filter_eq_self.2 h3]
      simp [h5])
  obtain ⟨l, b⟩ := r
  simp only at h1
  subst h1
  exact ⟨b, h2⟩
end slices_DeleteFunc_ssint_sint_v1
def ixn {α : Type} [DecidableEq α] : List α → α → Nat
  | [], _ => 0
  | b :: l, a => if b = a then 0 else ixn l a + 1
theorem ixn_lt {α : Type} [DecidableEq α] {a : α} : ∀ {l : List α}, a ∈ l → ixn l a < l.length
  | [], h => by cases h
  | b :: l, h => by
    simp only [ixn, List.length_cons]
    split
    · omega
    · rename_i hb
      have := ixn_lt (l := l) (a := a) ((List.mem_cons.1 h).resolve_left fun h => hb h.symm)
      omega
theorem ixn_get {α : Type} [DecidableEq α] {a : α} : ∀ {l : List α}, a ∈ l → l[ixn l a]? = some a
  | [], h => by cases h
  | b :: l, h => by
    simp only [ixn]
    split
    · rename_i hb; subst hb; rfl
    · rename_i hb
      rw [List.getElem?_cons_succ]
      exact ixn_get ((List.mem_cons.1 h).resolve_left fun h => hb h.symm)
theorem ixn_in {α : Type} [DecidableEq α] {a : α} : ∀ {l m : List α}, a ∈ l → ixn (l ++ m) a = ixn l a
  | [], _, h => by cases h
  | b :: l, m, h => by
    simp only [List.cons_append, ixn]
    split
    · rfl
    · rename_i hb
      rw [ixn_in ((List.mem_cons.1 h).resolve_left fun h => hb h.symm)]
theorem idx_snoc {α : Type} [DecidableEq α] {a : α} : ∀ {l : List α}, a ∉ l → ixn (l ++ [a]) a = l.length
  | [], _ => by simp [ixn]
  | b :: l, h => by
    simp only [List.mem_cons, not_or] at h
    simp only [List.cons_append, ixn, if_neg (Ne.symm h.1), List.length_cons]
    rw [idx_snoc h.2]
theorem ixn_uniq {α : Type} [DecidableEq α] {a : α} : ∀ {l : List α} {q : Nat}, l.Nodup → l[q]? = some a → ixn l a = q
  | [], q, _, h => by simp at h
  | b :: l, 0, _, h => by
    simp only [List.getElem?_cons_zero, Option.some.injEq] at h
    simp [ixn, h]
  | b :: l, q + 1, hl, h => by
    simp only [List.getElem?_cons_succ] at h
    have hn := List.nodup_cons.1 hl
    have : b ≠ a := fun hb => hn.1 (hb ▸ List.mem_of_getElem? h)
    simp only [ixn, if_neg this, ixn_uniq hn.2 h]
def ixOf {α : Type} [DecidableEq α] (m : List (α × Int)) (ks : List α) : Prop := ∀ a, mget a m = if a ∈ ks then some ((ixn ks a : Nat) : Int) else none
theorem mget_mset {κ ν : Type} [DecidableEq κ] {k k' : κ} {v : ν} : ∀ {l : List (κ × ν)}, mget k' (mset k v l) = if k = k' then some v else mget k' l
  | [] => by
    by_cases h : k = k'
    · subst h; simp [mset, mget]
    · simp [mset, mget, h, Ne.symm h]
  | (a, b) :: l => by
    have ih := mget_mset (k := k) (k' := k') (v := v) (l := l)
    simp only [mset]
    by_cases h1 : k = a
    · subst h1
      simp only [if_true, mget]
      by_cases h2 : k' = k
      · subst h2; simp
      · simp [h2, Ne.symm h2]
    · simp only [if_neg h1, mget]
      by_cases h2 : k' = a
      · subst h2; simp [h1]
      · simp only [if_neg h2]; exact ih
namespace partition_groups_2_int
theorem loop {x0 : List (Int × Int)} {φ : List (List Int) → Prop} (hn : x0.length ≤ 10000) (hφ : φ (grpF x0)) : ∀ (r : List (Int × Int)) (k : Nat) (m : List ((Int × Int) × Int)), x0.drop k = r → ixOf m (fsts (x0.take k)) → L1 x0 m ((fsts (x0.take k)).map (cls (x0.take k))) k φ
  | [], k, m, hd, hm => by
    apply L1_step
    have hk := drop_ge hd
    rw [if_neg (by omega), List.take_of_length_le hk]
    have hlen : ((fsts x0).map (cls x0)).length < Big := by
      rw [List.length_map]
      have : ∀ l : List (Int × Int), (fsts l).length ≤ l.length := by
        intro l
        refine list_snoc_ind (p := fun l => (fsts l).length ≤ l.length) (by simp [fsts]) (fun l b ih => ?_) l
        rw [fsts_snoc]
        split
        · simp; omega
        · simp; omega
      have := this x0
      unfold Big; omega
    obtain ⟨b, hb⟩ := slices_DeleteFunc_ssint_sint_v1.spec hlen
    exact ⟨_, hb, hφ⟩
  | a :: r, k, m, hd, hm => by
    apply L1_step
    have hk := drop_lt hd
    rw [if_pos (by omega)]
    refine ⟨a, lget_drop hd, ?_⟩
    have htk : x0.take (k + 1) = x0.take k ++ [a] := by rw [List.take_add_one, drop_get hd]; rfl
    have hlen : (x0.take k).length = k := by rw [List.length_take]; omega
    have hle : (fsts (x0.take k)).length ≤ 10000 := by
      have : ∀ l : List (Int × Int), (fsts l).length ≤ l.length := by
        intro l
        refine list_snoc_ind (p := fun l => (fsts l).length ≤ l.length) (by simp [fsts]) (fun l b ih => ?_) l
        rw [fsts_snoc]
        split
        · simp; omega
        · simp; omega
      have := this (x0.take k)
      omega
    have hcl : ∀ b, (cls (x0.take k) b).length ≤ 10000 := fun b => by
      unfold cls
      rw [List.length_map]
      exact Nat.le_trans (List.length_filter_le _ _) (by simp; omega)
    by_cases ha : a ∈ fsts (x0.take k)
    · have hg : mget a m = some ((ixn (fsts (x0.take k)) a : Nat) : Int) := by rw [hm a, if_pos ha]
      rw [if_pos (by simp [mhas, hg])]
      apply L2_step
      have hi : ixn (fsts (x0.take k)) a < (fsts (x0.take k)).length := ixn_lt ha
      have hgd : mgetD a m 0 = ((ixn (fsts (x0.take k)) a : Nat) : Int) := by simp [mgetD, hg]
      rw [hgd]
      refine ⟨cls (x0.take k) a, ?_, by have := hcl a; omega, ?_⟩
      · rw [lget_nat, List.getElem?_map, ixn_get ha]; rfl
      · rw [wrap_succ (by omega)]
        have ih := loop hn hφ r (k + 1) m (drop_next hd) (by rw [htk, fsts_snoc, if_pos ha]; exact hm)
        rw [htk, fsts_snoc, if_pos ha] at ih
        have e : (fsts (x0.take k)).map (cls (x0.take k ++ [a])) = lset ((fsts (x0.take k)).map (cls (x0.take k))) ((ixn (fsts (x0.take k)) a : Nat) : Int) (cls (x0.take k) a ++ [(k : Int)]) := by
          unfold lset
          rw [Int.toNat_natCast]
          apply List.ext_getElem?
          intro q
          rw [List.getElem?_map, List.getElem?_set, List.getElem?_map, List.length_map]
          by_cases hq : ixn (fsts (x0.take k)) a = q
          · subst hq
            rw [if_pos rfl, if_pos hi, ixn_get ha]
            simp [cls_snoc, hlen]
          · rw [if_neg hq]
            cases hv : (fsts (x0.take k))[q]? with
            | none => rfl
            | some b =>
              simp only [Option.map_some, Option.some.injEq]
              rw [cls_snoc, if_neg]
              rintro rfl
              exact hq (ixn_uniq fsts_nodup hv)
        rw [e] at ih
        exact ih
    · have hg : mget a m = none := by rw [hm a, if_neg ha]
      rw [if_neg (by simp [mhas, hg])]
      have hal : a ∉ x0.take k := fun h => ha (mem_fsts.2 h)
      refine ⟨by rw [List.length_map]; omega, ?_⟩
      apply L2_step
      refine ⟨[], ?_, by simp, ?_⟩
      · rw [lget_nat, List.getElem?_append_right (Nat.le_refl _)]; simp
      · rw [wrap_succ (by omega), List.length_map]
        have ih := loop hn hφ r (k + 1) (mset a ((fsts (x0.take k)).length : Int) m) (drop_next hd) (by
          rw [htk, fsts_snoc, if_neg ha]
          intro b
          rw [mget_mset]
          by_cases hab : a = b
          · subst hab
            rw [if_pos rfl, if_pos (by simp), idx_snoc ha]
          · rw [if_neg hab, hm b]
            have : b ∈ fsts (x0.take k) ++ [a] ↔ b ∈ fsts (x0.take k) := by simp [Ne.symm hab]
            by_cases hb : b ∈ fsts (x0.take k)
            · rw [if_pos hb, if_pos (this.2 hb), ixn_in hb]
            · rw [if_neg hb, if_neg (fun h => hb (this.1 h))])
        rw [htk, fsts_snoc, if_neg ha] at ih
        have e : (fsts (x0.take k) ++ [a]).map (cls (x0.take k ++ [a])) = lset ((fsts (x0.take k)).map (cls (x0.take k)) ++ [[]]) ((fsts (x0.take k)).length : Int) ([] ++ [(k : Int)]) := by
          unfold lset
          rw [Int.toNat_natCast, List.set_append_right _ _ (by simp), List.length_map, Nat.sub_self, List.set_cons_zero, List.map_append]
          congr 1
          · refine List.map_congr_left fun b hb => ?_
            rw [cls_snoc, if_neg]
            rintro rfl; exact ha hb
          · simp [cls_snoc, cls_out hal, hlen]
        rw [e] at ih
        exact ih
theorem spec {x0 : List (Int × Int)} (hn : x0.length ≤ 10000) : C x0 (grpF x0) := by
  obtain ⟨r, h1, h2⟩ := enter x0 (fun r => r = grpF x0) (by
    have := loop (φ := fun r => r = grpF x0) hn rfl x0 0 [] rfl (by intro a; simp [mget, fsts])
    simpa [fsts] using this)
  rw [← h1]; exact h2
end partition_groups_2_int
def zipL (l m : List Int) : List (Int × Int) := l.zip m
def prodF (a b : api_Partition) : api_Partition × Int := if bothF a b = 0 then (⟨a.Rows, grpF (zipL (labN a) (labN b))⟩, 0) else (⟨0, []⟩, bothF a b)
namespace partition_Product
theorem loop {x0 : api_Partition} {l m : List Int} {φ : api_Partition × Int → Prop} (h0 : 0 ≤ x0.Rows) (h1 : x0.Rows ≤ 1000) (hl : l.length = x0.Rows.toNat) (hm : m.length = x0.Rows.toNat) (hφ : φ (⟨x0.Rows, grpF (zipL l m)⟩, 0)) : ∀ (n k : Nat), k + n = x0.Rows.toNat → L1 x0 l m ((zipL l m).take k ++ List.replicate n (0, 0)) k φ
  | 0, k, hk => by
    apply L1_step
    rw [if_neg (by simp; omega)]
    have hz : (zipL l m).length = x0.Rows.toNat := by simp [zipL, hl, hm]
    rw [List.take_of_length_le (by omega), List.replicate_zero, List.append_nil]
    exact ⟨_, partition_groups_2_int.spec (by omega), hφ⟩
  | n + 1, k, hk => by
    apply L1_step
    have hz : (zipL l m).length = x0.Rows.toNat := by simp [zipL, hl, hm]
    rw [if_pos (by simp; omega)]
    have hlk := List.getElem?_eq_getElem (l := l) (i := k) (by omega)
    have hmk := List.getElem?_eq_getElem (l := m) (i := k) (by omega)
    have htl : ((zipL l m).take k).length = k := by rw [List.length_take]; omega
    refine ⟨l[k], by rw [lget_nat]; exact hlk, m[k], by rw [lget_nat]; exact hmk, (0, 0), ?_, ?_⟩
    · rw [lget_nat, List.getElem?_append_right (by omega), htl, Nat.sub_self, List.replicate_succ]; rfl
    · rw [wrap_succ (by omega)]
      have : lset ((zipL l m).take k ++ List.replicate (n + 1) (0, 0)) (k : Int) (l[k], m[k]) = (zipL l m).take (k + 1) ++ List.replicate n (0, 0) := by
        unfold lset
        rw [Int.toNat_natCast, List.set_append_right _ _ (by omega), htl, Nat.sub_self, List.replicate_succ, List.set_cons_zero, List.take_add_one]
        have : (zipL l m)[k]? = some (l[k], m[k]) := by
          unfold zipL
          rw [List.getElem?_zip_eq_some]
          exact ⟨hlk, hmk⟩
        rw [this]
        simp
      rw [this]
      exact loop h0 h1 hl hm hφ n (k + 1) (by omega)
theorem spec {a b : api_Partition} (ha : Small a) (hb : Small b) : C a b (prodF a b) := by
  obtain ⟨r, h1, h2⟩ := enter a b (fun r => r = prodF a b) (by
    refine ⟨_, partition_both.spec ha hb, ?_⟩
    unfold prodF
    split
    · rename_i h
      have h' := h
      unfold bothF at h
      split at h
      · rename_i va
        split at h
        · rename_i vb
          split at h
          · rename_i hr
            obtain ⟨v1, v2, v3⟩ := valid_iff.1 va
            refine ⟨_, partition_labels.spec ha va, _, partition_labels.spec hb vb, by omega, ?_⟩
            have := loop (φ := fun r => r = (⟨a.Rows, grpF (zipL (labN a) (labN b))⟩, 0)) v1 v2 labN_len (by rw [labN_len, hr]) rfl a.Rows.toNat 0 (by omega)
            simpa using this
          · omega
        · omega
      · omega
    · rfl)
  rw [← h1]; exact h2
end partition_Product
end Go.Own

namespace Go.Own
section
variable {α β : Type} [DecidableEq α] [DecidableEq β]
structure Alike (l : List α) (m : List β) : Prop where
  len : l.length = m.length
  iff : ∀ i j : Nat, i < l.length → j < l.length → (l[i]? = l[j]? ↔ m[i]? = m[j]?)
theorem cls_alike {l : List α} {m : List β} (h : Alike l m) {k : Nat} {a : α} {b : β} (ha : l[k]? = some a) (hb : m[k]? = some b) : cls l a = cls m b := by
  unfold cls
  rw [h.len]
  congr 1
  refine List.filter_congr fun i hi => ?_
  have hk := (List.getElem?_eq_some_iff.1 ha).1
  have := h.iff i k (by rw [h.len]; simpa using hi) hk
  rw [ha, hb] at this
  rw [decide_eq_decide]
  exact this
theorem mem_take_iff {l : List α} {k : Nat} {a : α} : a ∈ l.take k ↔ ∃ j, j < k ∧ l[j]? = some a := by
  rw [List.mem_iff_getElem?]
  constructor
  · rintro ⟨j, hj⟩
    rw [List.getElem?_take] at hj
    split at hj
    · rename_i h; exact ⟨j, h, hj⟩
    · cases hj
  · rintro ⟨j, h1, h2⟩
    exact ⟨j, by rw [List.getElem?_take_of_lt h1]; exact h2⟩
theorem take_succ_get {l : List α} {k : Nat} {a : α} (h : l[k]? = some a) : l.take (k + 1) = l.take k ++ [a] := by rw [List.take_add_one, h]; rfl
theorem map_alike {l : List α} {m : List β} (h : Alike l m) : ∀ k, k ≤ l.length → (fsts (l.take k)).map (cls l) = (fsts (m.take k)).map (cls m)
  | 0, _ => by simp [fsts]
  | k + 1, hk => by
    have ih := map_alike h k (by omega)
    have hl := List.getElem?_eq_getElem (l := l) (i := k) (by omega)
    have hm := List.getElem?_eq_getElem (l := m) (i := k) (by rw [← h.len]; omega)
    rw [take_succ_get hl, take_succ_get hm, fsts_snoc, fsts_snoc]
    have e : l[k] ∈ fsts (l.take k) ↔ m[k]'(by rw [← h.len]; omega) ∈ fsts (m.take k) := by
      rw [mem_fsts, mem_fsts, mem_take_iff, mem_take_iff]
      constructor
      · rintro ⟨j, h1, h2⟩
        refine ⟨j, h1, ?_⟩
        rw [← hm, ← h.iff j k (by omega) (by omega), h2, hl]
      · rintro ⟨j, h1, h2⟩
        refine ⟨j, h1, ?_⟩
        rw [← hl, h.iff j k (by omega) (by omega), h2, hm]
    by_cases hin : l[k] ∈ fsts (l.take k)
    · rw [if_pos hin, if_pos (e.1 hin)]; exact ih
    · rw [if_neg hin, if_neg (fun hh => hin (e.2 hh)), List.map_append, List.map_append, ih]
      simp only [List.map_cons, List.map_nil, cls_alike h hl hm]
theorem grpF_alike {l : List α} {m : List β} (h : Alike l m) : grpF l = grpF m := by
  have := map_alike h l.length (Nat.le_refl _)
  rw [List.take_length, h.len, List.take_length] at this
  unfold grpF
  rw [this]
theorem cls_sorted {l : List α} {a : α} : (cls l a).Pairwise (· < ·) := by
  unfold cls
  rw [List.pairwise_map]
  refine List.Pairwise.imp ?_ (List.pairwise_lt_range.filter _)
  intro i j h; omega
theorem head_le {c : List Int} (h : c.Pairwise (· < ·)) {i : Int} (hi : i ∈ c) : c.headD 0 ≤ i := by
  match c, h, hi with
  | a :: t, h, hi =>
    simp only [List.headD_cons]
    rcases List.mem_cons.1 hi with rfl | hi
    · omega
    · have := (List.pairwise_cons.1 h).1 i hi; omega
theorem headD_in {c : List Int} (h : c ≠ []) : c.headD 0 ∈ c := by
  match c, h with
  | a :: t, _ => simp
theorem cls_ne {l : List α} {a : α} (h : a ∈ l) : cls l a ≠ [] := by
  obtain ⟨k, hk⟩ := List.mem_iff_getElem?.1 h
  intro hn
  have : ((k : Nat) : Int) ∈ cls l a := mem_cls.2 (by rw [lget_nat]; exact hk)
  rw [hn] at this; cases this
theorem grp_pairs {l : List α} : ∀ k, k ≤ l.length → ((fsts (l.take k)).map (cls l)).Pairwise (fun c d => c.headD 0 < d.headD 0 ∧ ∀ i ∈ c, i ∉ d) ∧ ∀ a ∈ fsts (l.take k), (cls l a).headD 0 < (k : Int)
  | 0, _ => by simp [fsts]
  | k + 1, hk => by
    obtain ⟨i1, i2⟩ := grp_pairs (l := l) k (by omega)
    obtain ⟨x, hl⟩ : ∃ x, l[k]? = some x := ⟨_, List.getElem?_eq_getElem (by omega)⟩
    rw [take_succ_get hl, fsts_snoc]
    split
    · exact ⟨i1, fun a ha => by have := i2 a ha; omega⟩
    · rename_i hin
      have hne := cls_ne (List.mem_of_getElem? hl)
      have hkm : ((k : Nat) : Int) ∈ cls l x := mem_cls.2 (by rw [lget_nat]; exact hl)
      have hhead : (cls l x).headD 0 = (k : Int) := by
        have h1 := head_le cls_sorted hkm
        have h2 := mem_cls.1 (headD_in hne)
        obtain ⟨h3, h4⟩ := lget_some h2
        rcases Int.lt_or_le ((cls l x).headD 0) (k : Int) with h5 | h5
        · exfalso
          apply hin
          rw [mem_fsts, mem_take_iff]
          exact ⟨_, by omega, h4⟩
        · omega
      refine ⟨?_, ?_⟩
      · rw [List.map_append, List.pairwise_append]
        refine ⟨i1, by simp, fun c hc d hd => ?_⟩
        simp only [List.map_cons, List.map_nil, List.mem_singleton] at hd
        subst hd
        obtain ⟨b, hb, rfl⟩ := List.mem_map.1 hc
        refine ⟨by rw [hhead]; exact i2 b hb, fun i hi hi2 => ?_⟩
        have e := (mem_cls.1 hi).symm.trans (mem_cls.1 hi2)
        rw [Option.some.inj e] at hb
        exact hin hb
      · intro a ha
        rcases List.mem_append.1 ha with ha | ha
        · have := i2 a ha; omega
        · simp only [List.mem_singleton] at ha
          subst ha
          rw [hhead]; omega
def part (l : List α) : api_Partition := ⟨l.length, grpF l⟩
theorem mem_grpF {l : List α} {c : List Int} : c ∈ grpF l ↔ ∃ a ∈ l, c = cls l a ∧ 2 ≤ c.length := by
  unfold grpF
  simp only [List.mem_filter, List.mem_map, decide_eq_true_eq]
  constructor
  · rintro ⟨⟨a, h1, rfl⟩, h2⟩; exact ⟨a, mem_fsts.1 h1, rfl, h2⟩
  · rintro ⟨a, h1, rfl, h2⟩; exact ⟨⟨a, mem_fsts.2 h1, rfl⟩, h2⟩
theorem part_CP {l : List α} : CP (l.length : Int) (grpF l) := by
  have hp := (grp_pairs (l := l) l.length (Nat.le_refl _)).1
  rw [List.take_length] at hp
  have hp' : (grpF l).Pairwise (fun c d => c.headD 0 < d.headD 0 ∧ ∀ i ∈ c, i ∉ d) := hp.filter _
  refine ⟨fun c hc => ?_, fun c hc => ?_, fun c hc i hi => ?_, hp'.imp fun h => h.1, hp'.imp fun h => h.2⟩
  · obtain ⟨a, _, _, h⟩ := mem_grpF.1 hc; exact h
  · obtain ⟨a, _, rfl, _⟩ := mem_grpF.1 hc; exact cls_sorted
  · obtain ⟨a, _, rfl, _⟩ := mem_grpF.1 hc
    obtain ⟨h1, h2⟩ := lget_some (mem_cls.1 hi)
    have := (List.getElem?_eq_some_iff.1 h2).1
    omega
theorem part_valid {l : List α} (h : l.length ≤ 1000) : validF (part l) = true := valid_iff.2 ⟨by simp [part], by simp only [part]; omega, part_CP⟩
theorem part_same {l : List α} {i j : Int} (hi : 0 ≤ i ∧ i < l.length) (hj : 0 ≤ j ∧ j < l.length) : Same (part l) i j ↔ lget l i = lget l j := by
  constructor
  · rintro (rfl | ⟨c, hc, h1, h2⟩)
    · rfl
    · obtain ⟨a, _, rfl, _⟩ := mem_grpF.1 hc
      rw [mem_cls.1 h1, mem_cls.1 h2]
  · intro h
    by_cases hij : i = j
    · exact .inl hij
    · obtain ⟨a, ha⟩ := lget_lt (l := l) hi.1 hi.2
      have h1 : i ∈ cls l a := mem_cls.2 ha
      have h2 : j ∈ cls l a := mem_cls.2 (h ▸ ha)
      refine .inr ⟨cls l a, mem_grpF.2 ⟨a, ?_, rfl, ?_⟩, h1, h2⟩
      · exact List.mem_of_getElem? (lget_some ha).2
      · match hc : cls l a, h1, h2 with
        | [x], h1, h2 => simp at h1 h2; exact absurd (h1.trans h2.symm) hij
        | _ :: _ :: _, _, _ => simp
theorem part_small {l : List α} (h : l.length ≤ 1000) : Small (part l) := by
  obtain ⟨h1, h2⟩ := sizes (part_valid h)
  exact ⟨by unfold Big; omega, fun c hc => by have := h2 c hc; unfold Big; omega⟩
theorem prod_part {l : List α} {m : List β} (hl : l.length ≤ 1000) (hm : m.length = l.length) : prodF (part l) (part m) = (part (l.zip m), 0) := by
  have hb : bothF (part l) (part m) = 0 := by
    simp [bothF, part_valid hl, part_valid (l := m) (by omega)]
    simp [part, hm]
  unfold prodF
  rw [if_pos hb]
  have ha : Alike (zipL (labN (part l)) (labN (part m))) (l.zip m) := by
    have n1 : (labN (part l)).length = l.length := by rw [labN_len]; simp [part]
    have n2 : (labN (part m)).length = l.length := by rw [labN_len]; simp [part, hm]
    refine ⟨by simp [zipL, n1, n2, hm], fun i j hi hj => ?_⟩
    have hi : i < l.length := by simp only [zipL, List.length_zip, n1, n2] at hi; omega
    have hj : j < l.length := by simp only [zipL, List.length_zip, n1, n2] at hj; omega
    have key : ∀ {γ δ : Type} {u : List γ} {v : List δ}, u.length = l.length → v.length = l.length → ((u.zip v)[i]? = (u.zip v)[j]? ↔ u[i]? = u[j]? ∧ v[i]? = v[j]?) := by
      intro γ δ u v hu hv
      rw [List.getElem?_eq_getElem (by simp; omega), List.getElem?_eq_getElem (by simp; omega), List.getElem?_eq_getElem (l := u) (by omega), List.getElem?_eq_getElem (l := u) (i := j) (by omega), List.getElem?_eq_getElem (l := v) (by omega), List.getElem?_eq_getElem (l := v) (i := j) (by omega)]
      simp
    unfold zipL
    rw [key n1 n2, key rfl hm]
    have s1 := labN_same (part_valid hl) (i := (i : Int)) (j := (j : Int)) (by simp [part]; omega) (by simp [part]; omega)
    have s2 := labN_same (part_valid (l := m) (by omega)) (i := (i : Int)) (j := (j : Int)) (by simp [part]; omega) (by simp [part]; omega)
    rw [part_same (by omega) (by omega)] at s1
    rw [part_same (by omega) (by omega)] at s2
    simp only [lget_nat] at s1 s2
    rw [s1, s2]
  rw [grpF_alike ha]
  simp [part, hm]
end
end Go.Own

namespace Go.Own
open Go.Proofs D
set_option maxRecDepth 100000
set_option maxHeartbeats 4000000
namespace drossref02_Ints
noncomputable def B : Code := (Tryd.f38.body).getD .skip
def W : List Nat := [0, 1, 4, 5, 10, 14, 25]
def res (r : Bool) : D × List D := (.lit (.bool r), [])
def C (x0 : List Int) (x1 : List Int) (r : Bool) : Prop := Ret env 38 [.sl (x0.map (eI .i64)), .sl (x1.map (eI .i64))] (res r).1 (res r).2
def L1 (x0 : List Int) (x1 : List Int) (y5_L1 : Int) (φ : Bool → Prop) : Prop := Pt env 38 W B [1, 1, 0, 1, 0] [(0, .sl (x0.map (eI .i64))), (1, .sl (x1.map (eI .i64))), (5, .lit (.int .i64 y5_L1))] (Lv env 38 Tryd.f38 2 res φ)
theorem L1_step (x0 : List Int) (x1 : List Int) (y5_L1 : Int) (φ : Bool → Prop) (h :
    (if y5_L1 < (x0.length : Int) then
      ∃ a1, lget x0 y5_L1 = some a1 ∧
      ∃ a3, lget x1 y5_L1 = some a3 ∧
      (if a1 = a3 then
        drossref02_Ints.L1 x0 x1 ((IntKind.wrap .i64 (y5_L1 + 1))) φ
      else
        φ false)
    else
      φ true)) : L1 x0 x1 y5_L1 φ := by
  unfold L1
  refine Pt.loop (p' := [1, 1, 0, 1, 0, 0, 0, 0]) (by kernel_rfl) (by kernel_rfl) ?_
  refine Pt.reg (by kernel_rfl) ?_
  refine AtO.seg 2 (by kernel_rfl) ?_
  refine AtO.val (by kernel_rfl) (val_len (x := (.tmp 12)) (t := 38) (et := 3) (d := .sl (x0.map (eI .i64))) (e := (eI .i64)) (l := x0) (by kernel_rfl) (by kernel_rfl) elemsOf_sl (by kernel_rfl)) ?_
  refine AtO.bool (b := (decide (y5_L1 < (x0.length : Int)))) (by kernel_rfl) (by kernel_rfl) (fun hc => ?_) (fun hc => ?_)
  · have h := ite_t h (of_decide_eq_true hc)
    refine AtO.done (p' := [1, 1, 0, 1, 0, 0, 0, 1]) (F' := [(0, .sl (x0.map (eI .i64))), (1, .sl (x1.map (eI .i64))), (5, .lit (.int .i64 y5_L1)), (14, .lit (.bool true))]) (by kernel_rfl) (by kernel_rfl) (by kernel_rfl) ?_
    refine Pt.cond_t (p' := [1, 1, 0, 1, 0, 0, 0, 1, 0]) (F' := [(0, .sl (x0.map (eI .i64))), (1, .sl (x1.map (eI .i64))), (5, .lit (.int .i64 y5_L1))]) (y := (.tmp 14)) (by kernel_rfl) (by kernel_rfl) (by kernel_rfl) (by kernel_rfl) ?_
    refine Pt.skip (p' := [1, 1, 0, 1, 0, 0, 1, 0, 0, 0]) (by kernel_rfl) (by kernel_rfl) ?_
    refine Pt.reg (by kernel_rfl) ?_
    obtain ⟨a1, h2, h⟩ := h
    refine AtO.seg 2 (by kernel_rfl) ?_
    refine AtO.val (by kernel_rfl) (val_idx_sl (t := 38) (x := (.tmp 17)) (ix := (.tmp 18)) (et := 3) (k := 1) (e := (eI .i64)) (l := x0) (i := y5_L1) (q := .i64) (a := a1) (by kernel_rfl) (by kernel_rfl) (by kernel_rfl) (by kernel_rfl) (by kernel_rfl) h2 (by kernel_rfl)) ?_
    obtain ⟨a3, h4, h⟩ := h
    refine AtO.seg 3 (by kernel_rfl) ?_
    refine AtO.val (by kernel_rfl) (val_idx_sl (t := 38) (x := (.tmp 21)) (ix := (.tmp 22)) (et := 3) (k := 1) (e := (eI .i64)) (l := x1) (i := y5_L1) (q := .i64) (a := a3) (by kernel_rfl) (by kernel_rfl) (by kernel_rfl) (by kernel_rfl) (by kernel_rfl) h4 (by kernel_rfl)) ?_
    refine AtO.seg 1 (by kernel_rfl) ?_
    refine AtO.bool (b := (a1 != a3)) (by kernel_rfl) (by kernel_rfl) (fun hc => ?_) (fun hc => ?_)
    · have h := ite_f h (bne_t hc)
      refine AtO.done (p' := [1, 1, 0, 1, 0, 0, 1, 0, 0, 1]) (F' := [(0, .sl (x0.map (eI .i64))), (1, .sl (x1.map (eI .i64))), (5, .lit (.int .i64 y5_L1)), (25, .lit (.bool true))]) (by kernel_rfl) (by kernel_rfl) (by kernel_rfl) ?_
      refine Pt.cond_t (p' := [1, 1, 0, 1, 0, 0, 1, 0, 0, 1, 0, 0]) (F' := []) (y := (.tmp 25)) (by kernel_rfl) (by kernel_rfl) (by kernel_rfl) (by kernel_rfl) ?_
      refine Pt.reg (by kernel_rfl) ?_
      refine AtO.seg 1 (by kernel_rfl) ?_
      refine AtO.done (p' := [1, 1, 0, 1, 0, 0, 1, 0, 0, 1, 0, 1]) (F' := [(4, .lit (.bool false))]) (by kernel_rfl) (by kernel_rfl) (by kernel_rfl) ?_
      exact Pt.ret false (by kernel_rfl) (by kernel_rfl) h
    · have h := ite_t h (bne_f hc)
      refine AtO.done (p' := [1, 1, 0, 1, 0, 0, 1, 0, 0, 1]) (F' := [(0, .sl (x0.map (eI .i64))), (1, .sl (x1.map (eI .i64))), (5, .lit (.int .i64 y5_L1)), (25, .lit (.bool false))]) (by kernel_rfl) (by kernel_rfl) (by kernel_rfl) ?_
      refine Pt.cond_f (p' := [1, 1, 0, 1, 0, 0, 1, 0, 0, 1, 1]) (F' := [(0, .sl (x0.map (eI .i64))), (1, .sl (x1.map (eI .i64))), (5, .lit (.int .i64 y5_L1))]) (y := (.tmp 25)) (by kernel_rfl) (by kernel_rfl) (by kernel_rfl) (by kernel_rfl) ?_
      refine Pt.skip (p' := [1, 1, 0, 1, 0, 0, 1, 1]) (by kernel_rfl) (by kernel_rfl) ?_
      refine Pt.reg (by kernel_rfl) ?_
      refine AtO.seg 3 (by kernel_rfl) ?_
      refine AtO.done (p' := [1, 1, 0, 1, 0]) (F' := [(0, .sl (x0.map (eI .i64))), (1, .sl (x1.map (eI .i64))), (5, .lit (.int .i64 ((IntKind.wrap .i64 (y5_L1 + 1)))))]) (by kernel_rfl) (by kernel_rfl) (by kernel_rfl) ?_
      exact h
  · have h := ite_f h (of_decide_eq_false hc)
    refine AtO.done (p' := [1, 1, 0, 1, 0, 0, 0, 1]) (F' := [(0, .sl (x0.map (eI .i64))), (1, .sl (x1.map (eI .i64))), (5, .lit (.int .i64 y5_L1)), (14, .lit (.bool false))]) (by kernel_rfl) (by kernel_rfl) (by kernel_rfl) ?_
    refine Pt.cond_f (p' := [1, 1, 0, 1, 0, 0, 0, 1, 1]) (F' := []) (y := (.tmp 14)) (by kernel_rfl) (by kernel_rfl) (by kernel_rfl) (by kernel_rfl) ?_
    refine Pt.exit (p' := [1, 1, 1, 0]) (F' := []) (by kernel_rfl) (by kernel_rfl) (by kernel_rfl) ?_
    refine Pt.reg (by kernel_rfl) ?_
    refine AtO.seg 1 (by kernel_rfl) ?_
    refine AtO.done (p' := [1, 1, 1, 1]) (F' := [(4, .lit (.bool true))]) (by kernel_rfl) (by kernel_rfl) (by kernel_rfl) ?_
    exact Pt.ret true (by kernel_rfl) (by kernel_rfl) h
theorem enter (x0 : List Int) (x1 : List Int) (φ : Bool → Prop) (h :
    (if (x0.length : Int) = (x1.length : Int) then
      drossref02_Ints.L1 x0 x1 0 φ
    else
      φ false)) : ∃ r, φ r ∧ C x0 x1 r := by
  refine Ret.of_at (E := env) (f := 38) (fd := Tryd.f38) (body := B) (p := [0]) (V := W) (F := [(0, .sl (x0.map (eI .i64))), (1, .sl (x1.map (eI .i64))), (4, .undef), (5, .undef), (10, .undef), (14, .undef), (25, .undef)]) (res := res) (φ := φ) (ds := [.sl (x0.map (eI .i64)), .sl (x1.map (eI .i64))]) (by kernel_rfl) (by kernel_rfl) (by kernel_rfl) ⟨Nat.le_of_ble_eq_true (by kernel_rfl), Nat.le_of_ble_eq_true (by kernel_rfl)⟩ (by kernel_rfl) (by kernel_rfl) (by kernel_rfl) ?_
  refine Pt.reg (by kernel_rfl) ?_
  refine AtO.seg 1 (by kernel_rfl) ?_
  refine AtO.done (p' := [1, 0, 0]) (F' := [(0, .sl (x0.map (eI .i64))), (1, .sl (x1.map (eI .i64)))]) (by kernel_rfl) (by kernel_rfl) (by kernel_rfl) ?_
  refine Pt.reg (by kernel_rfl) ?_
  refine AtO.seg 1 (by kernel_rfl) ?_
  refine AtO.val (by kernel_rfl) (val_len (x := (.tmp 6)) (t := 38) (et := 3) (d := .sl (x0.map (eI .i64))) (e := (eI .i64)) (l := x0) (by kernel_rfl) (by kernel_rfl) elemsOf_sl (by kernel_rfl)) ?_
  refine AtO.seg 1 (by kernel_rfl) ?_
  refine AtO.val (by kernel_rfl) (val_len (x := (.tmp 8)) (t := 38) (et := 3) (d := .sl (x1.map (eI .i64))) (e := (eI .i64)) (l := x1) (by kernel_rfl) (by kernel_rfl) elemsOf_sl (by kernel_rfl)) ?_
  refine AtO.bool (b := ((x0.length : Int) != (x1.length : Int))) (by kernel_rfl) (by kernel_rfl) (fun hc => ?_) (fun hc => ?_)
  · have h := ite_f h (bne_t hc)
    refine AtO.done (p' := [1, 0, 1]) (F' := [(0, .sl (x0.map (eI .i64))), (1, .sl (x1.map (eI .i64))), (10, .lit (.bool true))]) (by kernel_rfl) (by kernel_rfl) (by kernel_rfl) ?_
    refine Pt.cond_t (p' := [1, 0, 1, 0, 0]) (F' := []) (y := (.tmp 10)) (by kernel_rfl) (by kernel_rfl) (by kernel_rfl) (by kernel_rfl) ?_
    refine Pt.reg (by kernel_rfl) ?_
    refine AtO.seg 1 (by kernel_rfl) ?_
    refine AtO.done (p' := [1, 0, 1, 0, 1]) (F' := [(4, .lit (.bool false))]) (by kernel_rfl) (by kernel_rfl) (by kernel_rfl) ?_
    exact Pt.ret false (by kernel_rfl) (by kernel_rfl) h
  · have h := ite_t h (bne_f hc)
    refine AtO.done (p' := [1, 0, 1]) (F' := [(0, .sl (x0.map (eI .i64))), (1, .sl (x1.map (eI .i64))), (10, .lit (.bool false))]) (by kernel_rfl) (by kernel_rfl) (by kernel_rfl) ?_
    refine Pt.cond_f (p' := [1, 0, 1, 1]) (F' := [(0, .sl (x0.map (eI .i64))), (1, .sl (x1.map (eI .i64)))]) (y := (.tmp 10)) (by kernel_rfl) (by kernel_rfl) (by kernel_rfl) (by kernel_rfl) ?_
    refine Pt.skip (p' := [1, 1, 0, 0]) (by kernel_rfl) (by kernel_rfl) ?_
    refine Pt.reg (by kernel_rfl) ?_
    refine AtO.seg 1 (by kernel_rfl) ?_
    refine AtO.done (p' := [1, 1, 0, 1, 0]) (F' := [(0, .sl (x0.map (eI .i64))), (1, .sl (x1.map (eI .i64))), (5, .lit (.int .i64 0))]) (by kernel_rfl) (by kernel_rfl) (by kernel_rfl) ?_
    exact h
end drossref02_Ints
end Go.Own

namespace Go.Own
open Go.Proofs D
set_option maxRecDepth 100000
set_option maxHeartbeats 4000000
namespace drossref08_Same
noncomputable def B : Code := (Tryd.f14.body).getD .skip
def W : List Nat := [0, 1, 2, 3, 4, 5, 19, 24, 38]
def res (r : Bool) : D × List D := (.lit (.bool r), [])
def C (x0 : api_Partition) (x1 : api_Partition) (r : Bool) : Prop := Ret env 14 [.agg [.lit (.int .i64 x0.Rows), .sl (x0.Classes.map (eSl (eI .i64)))], .agg [.lit (.int .i64 x1.Rows), .sl (x1.Classes.map (eSl (eI .i64)))]] (res r).1 (res r).2
def L1 (x0 : api_Partition) (x1 : api_Partition) (y5_L1 : Int) (φ : Bool → Prop) : Prop := Pt env 14 W B [1, 1, 0, 1, 0] [(0, .agg [.lit (.int .i64 x0.Rows), .sl (x0.Classes.map (eSl (eI .i64)))]), (1, .agg [.lit (.int .i64 x1.Rows), .sl (x1.Classes.map (eSl (eI .i64)))]), (2, .box [.lit (.int .i64 x0.Rows), .sl (x0.Classes.map (eSl (eI .i64)))]), (3, .box [.lit (.int .i64 x1.Rows), .sl (x1.Classes.map (eSl (eI .i64)))]), (5, .lit (.int .i64 y5_L1))] (Lv env 14 Tryd.f14 2 res φ)
theorem L1_step (x0 : api_Partition) (x1 : api_Partition) (y5_L1 : Int) (φ : Bool → Prop) (h :
    (if y5_L1 < (x0.Classes.length : Int) then
      ∃ a1, lget x0.Classes y5_L1 = some a1 ∧
      ∃ a3, lget x1.Classes y5_L1 = some a3 ∧
      ∃ r5 : Bool, drossref02_Ints.C a1 a3 r5 ∧
      (if r5 = true then
        drossref08_Same.L1 x0 x1 ((IntKind.wrap .i64 (y5_L1 + 1))) φ
      else
        φ false)
    else
      φ true)) : L1 x0 x1 y5_L1 φ := by
  unfold L1
  refine Pt.loop (p' := [1, 1, 0, 1, 0, 0, 0, 0]) (by kernel_rfl) (by kernel_rfl) ?_
  refine Pt.reg (by kernel_rfl) ?_
  refine AtO.seg 3 (by kernel_rfl) ?_
  refine AtO.val (by kernel_rfl) (val_len (x := (.tmp 22)) (t := 29) (et := 38) (d := .sl (x0.Classes.map (eSl (eI .i64)))) (e := (eSl (eI .i64))) (l := x0.Classes) (by kernel_rfl) (by kernel_rfl) elemsOf_sl (by kernel_rfl)) ?_
  refine AtO.bool (b := (decide (y5_L1 < (x0.Classes.length : Int)))) (by kernel_rfl) (by kernel_rfl) (fun hc => ?_) (fun hc => ?_)
  · have h := ite_t h (of_decide_eq_true hc)
    refine AtO.done (p' := [1, 1, 0, 1, 0, 0, 0, 1]) (F' := [(0, .agg [.lit (.int .i64 x0.Rows), .sl (x0.Classes.map (eSl (eI .i64)))]), (1, .agg [.lit (.int .i64 x1.Rows), .sl (x1.Classes.map (eSl (eI .i64)))]), (2, .box [.lit (.int .i64 x0.Rows), .sl (x0.Classes.map (eSl (eI .i64)))]), (3, .box [.lit (.int .i64 x1.Rows), .sl (x1.Classes.map (eSl (eI .i64)))]), (5, .lit (.int .i64 y5_L1)), (24, .lit (.bool true))]) (by kernel_rfl) (by kernel_rfl) (by kernel_rfl) ?_
    refine Pt.cond_t (p' := [1, 1, 0, 1, 0, 0, 0, 1, 0]) (F' := [(0, .agg [.lit (.int .i64 x0.Rows), .sl (x0.Classes.map (eSl (eI .i64)))]), (1, .agg [.lit (.int .i64 x1.Rows), .sl (x1.Classes.map (eSl (eI .i64)))]), (2, .box [.lit (.int .i64 x0.Rows), .sl (x0.Classes.map (eSl (eI .i64)))]), (3, .box [.lit (.int .i64 x1.Rows), .sl (x1.Classes.map (eSl (eI .i64)))]), (5, .lit (.int .i64 y5_L1))]) (y := (.tmp 24)) (by kernel_rfl) (by kernel_rfl) (by kernel_rfl) (by kernel_rfl) ?_
    refine Pt.skip (p' := [1, 1, 0, 1, 0, 0, 1, 0, 0, 0]) (by kernel_rfl) (by kernel_rfl) ?_
    refine Pt.reg (by kernel_rfl) ?_
    obtain ⟨a1, h2, h⟩ := h
    refine AtO.seg 3 (by kernel_rfl) ?_
    refine AtO.val (by kernel_rfl) (val_idx_sl (t := 29) (x := (.tmp 28)) (ix := (.tmp 29)) (et := 38) (k := 1) (e := (eSl (eI .i64))) (l := x0.Classes) (i := y5_L1) (q := .i64) (a := a1) (by kernel_rfl) (by kernel_rfl) (by kernel_rfl) (by kernel_rfl) (by kernel_rfl) h2 (by kernel_rfl)) ?_
    obtain ⟨a3, h4, h⟩ := h
    refine AtO.seg 4 (by kernel_rfl) ?_
    refine AtO.val (by kernel_rfl) (val_idx_sl (t := 29) (x := (.tmp 33)) (ix := (.tmp 34)) (et := 38) (k := 1) (e := (eSl (eI .i64))) (l := x1.Classes) (i := y5_L1) (q := .i64) (a := a3) (by kernel_rfl) (by kernel_rfl) (by kernel_rfl) (by kernel_rfl) (by kernel_rfl) h4 (by kernel_rfl)) ?_
    obtain ⟨r5, h6, h⟩ := h
    refine AtO.seg 1 (by kernel_rfl) ?_
    refine AtO.call0 (x := (.func 38)) (g := 38) (caps := []) (agl := [.opn (.tmp 31), .opn (.tmp 36)]) (ds := [.sl (a1.map (eI .i64)), .sl (a3.map (eI .i64))]) (r := .lit (.bool r5)) (r' := .lit (.bool r5)) (ms := [none, none]) (by kernel_rfl) (by kernel_rfl) (by kernel_rfl) (by kernel_rfl) (by kernel_rfl) (by kernel_rfl) (pass_snap (a := .opn (.tmp 31)) (d0 := .sl (a1.map (eI .i64))) (d := .sl (a1.map (eI .i64))) (by kernel_rfl) (by kernel_rfl) (by kernel_rfl) (pass_snap (a := .opn (.tmp 36)) (d0 := .sl (a3.map (eI .i64))) (d := .sl (a3.map (eI .i64))) (by kernel_rfl) (by kernel_rfl) (by kernel_rfl) pass_nil)) h6 rfl (by kernel_rfl) ?_
    refine AtO.putb (fun hc => ?_) (fun hc => ?_)
    · have h := ite_t h (id hc)
      refine AtO.seg 1 (by kernel_rfl) ?_
      refine AtO.done (p' := [1, 1, 0, 1, 0, 0, 1, 0, 0, 1]) (F' := [(0, .agg [.lit (.int .i64 x0.Rows), .sl (x0.Classes.map (eSl (eI .i64)))]), (1, .agg [.lit (.int .i64 x1.Rows), .sl (x1.Classes.map (eSl (eI .i64)))]), (2, .box [.lit (.int .i64 x0.Rows), .sl (x0.Classes.map (eSl (eI .i64)))]), (3, .box [.lit (.int .i64 x1.Rows), .sl (x1.Classes.map (eSl (eI .i64)))]), (5, .lit (.int .i64 y5_L1)), (38, .lit (.bool false))]) (by kernel_rfl) (by kernel_rfl) (by kernel_rfl) ?_
      refine Pt.cond_f (p' := [1, 1, 0, 1, 0, 0, 1, 0, 0, 1, 1]) (F' := [(0, .agg [.lit (.int .i64 x0.Rows), .sl (x0.Classes.map (eSl (eI .i64)))]), (1, .agg [.lit (.int .i64 x1.Rows), .sl (x1.Classes.map (eSl (eI .i64)))]), (2, .box [.lit (.int .i64 x0.Rows), .sl (x0.Classes.map (eSl (eI .i64)))]), (3, .box [.lit (.int .i64 x1.Rows), .sl (x1.Classes.map (eSl (eI .i64)))]), (5, .lit (.int .i64 y5_L1))]) (y := (.tmp 38)) (by kernel_rfl) (by kernel_rfl) (by kernel_rfl) (by kernel_rfl) ?_
      refine Pt.skip (p' := [1, 1, 0, 1, 0, 0, 1, 1]) (by kernel_rfl) (by kernel_rfl) ?_
      refine Pt.reg (by kernel_rfl) ?_
      refine AtO.seg 3 (by kernel_rfl) ?_
      refine AtO.done (p' := [1, 1, 0, 1, 0]) (F' := [(0, .agg [.lit (.int .i64 x0.Rows), .sl (x0.Classes.map (eSl (eI .i64)))]), (1, .agg [.lit (.int .i64 x1.Rows), .sl (x1.Classes.map (eSl (eI .i64)))]), (2, .box [.lit (.int .i64 x0.Rows), .sl (x0.Classes.map (eSl (eI .i64)))]), (3, .box [.lit (.int .i64 x1.Rows), .sl (x1.Classes.map (eSl (eI .i64)))]), (5, .lit (.int .i64 ((IntKind.wrap .i64 (y5_L1 + 1)))))]) (by kernel_rfl) (by kernel_rfl) (by kernel_rfl) ?_
      exact h
    · have h := ite_f h (fls hc)
      refine AtO.seg 1 (by kernel_rfl) ?_
      refine AtO.done (p' := [1, 1, 0, 1, 0, 0, 1, 0, 0, 1]) (F' := [(0, .agg [.lit (.int .i64 x0.Rows), .sl (x0.Classes.map (eSl (eI .i64)))]), (1, .agg [.lit (.int .i64 x1.Rows), .sl (x1.Classes.map (eSl (eI .i64)))]), (2, .box [.lit (.int .i64 x0.Rows), .sl (x0.Classes.map (eSl (eI .i64)))]), (3, .box [.lit (.int .i64 x1.Rows), .sl (x1.Classes.map (eSl (eI .i64)))]), (5, .lit (.int .i64 y5_L1)), (38, .lit (.bool true))]) (by kernel_rfl) (by kernel_rfl) (by kernel_rfl) ?_
      refine Pt.cond_t (p' := [1, 1, 0, 1, 0, 0, 1, 0, 0, 1, 0, 0]) (F' := []) (y := (.tmp 38)) (by kernel_rfl) (by kernel_rfl) (by kernel_rfl) (by kernel_rfl) ?_
      refine Pt.reg (by kernel_rfl) ?_
      refine AtO.seg 1 (by kernel_rfl) ?_
      refine AtO.done (p' := [1, 1, 0, 1, 0, 0, 1, 0, 0, 1, 0, 1]) (F' := [(4, .lit (.bool false))]) (by kernel_rfl) (by kernel_rfl) (by kernel_rfl) ?_
      exact Pt.ret false (by kernel_rfl) (by kernel_rfl) h
  · have h := ite_f h (of_decide_eq_false hc)
    refine AtO.done (p' := [1, 1, 0, 1, 0, 0, 0, 1]) (F' := [(0, .agg [.lit (.int .i64 x0.Rows), .sl (x0.Classes.map (eSl (eI .i64)))]), (1, .agg [.lit (.int .i64 x1.Rows), .sl (x1.Classes.map (eSl (eI .i64)))]), (2, .box [.lit (.int .i64 x0.Rows), .sl (x0.Classes.map (eSl (eI .i64)))]), (3, .box [.lit (.int .i64 x1.Rows), .sl (x1.Classes.map (eSl (eI .i64)))]), (5, .lit (.int .i64 y5_L1)), (24, .lit (.bool false))]) (by kernel_rfl) (by kernel_rfl) (by kernel_rfl) ?_
    refine Pt.cond_f (p' := [1, 1, 0, 1, 0, 0, 0, 1, 1]) (F' := []) (y := (.tmp 24)) (by kernel_rfl) (by kernel_rfl) (by kernel_rfl) (by kernel_rfl) ?_
    refine Pt.exit (p' := [1, 1, 1, 0]) (F' := []) (by kernel_rfl) (by kernel_rfl) (by kernel_rfl) ?_
    refine Pt.reg (by kernel_rfl) ?_
    refine AtO.seg 1 (by kernel_rfl) ?_
    refine AtO.done (p' := [1, 1, 1, 1]) (F' := [(4, .lit (.bool true))]) (by kernel_rfl) (by kernel_rfl) (by kernel_rfl) ?_
    exact Pt.ret true (by kernel_rfl) (by kernel_rfl) h
theorem enter (x0 : api_Partition) (x1 : api_Partition) (φ : Bool → Prop) (h :
    (if x0.Rows = x1.Rows then
      (if (x0.Classes.length : Int) = (x1.Classes.length : Int) then
        drossref08_Same.L1 x0 x1 0 φ
      else
        φ false)
    else
      φ false)) : ∃ r, φ r ∧ C x0 x1 r := by
  refine Ret.of_at (E := env) (f := 14) (fd := Tryd.f14) (body := B) (p := [0]) (V := W) (F := [(0, .agg [.lit (.int .i64 x0.Rows), .sl (x0.Classes.map (eSl (eI .i64)))]), (1, .agg [.lit (.int .i64 x1.Rows), .sl (x1.Classes.map (eSl (eI .i64)))]), (2, .undef), (3, .undef), (4, .undef), (5, .undef), (19, .undef), (24, .undef), (38, .undef)]) (res := res) (φ := φ) (ds := [.agg [.lit (.int .i64 x0.Rows), .sl (x0.Classes.map (eSl (eI .i64)))], .agg [.lit (.int .i64 x1.Rows), .sl (x1.Classes.map (eSl (eI .i64)))]]) (by kernel_rfl) (by kernel_rfl) (by kernel_rfl) ⟨Nat.le_of_ble_eq_true (by kernel_rfl), Nat.le_of_ble_eq_true (by kernel_rfl)⟩ (by kernel_rfl) (by kernel_rfl) (by kernel_rfl) ?_
  refine Pt.reg (by kernel_rfl) ?_
  refine AtO.seg 3 (by kernel_rfl) ?_
  refine AtO.done (p' := [1, 0, 0]) (F' := [(0, .agg [.lit (.int .i64 x0.Rows), .sl (x0.Classes.map (eSl (eI .i64)))]), (1, .agg [.lit (.int .i64 x1.Rows), .sl (x1.Classes.map (eSl (eI .i64)))]), (2, .box [.lit (.int .i64 x0.Rows), .sl (x0.Classes.map (eSl (eI .i64)))]), (3, .box [.lit (.int .i64 x1.Rows), .sl (x1.Classes.map (eSl (eI .i64)))])]) (by kernel_rfl) (by kernel_rfl) (by kernel_rfl) ?_
  refine Pt.reg (by kernel_rfl) ?_
  refine AtO.seg 4 (by kernel_rfl) ?_
  refine AtO.bool (b := (x0.Rows != x1.Rows)) (by kernel_rfl) (by kernel_rfl) (fun hc => ?_) (fun hc => ?_)
  · have h := ite_f h (bne_t hc)
    refine AtO.seg 9 (by kernel_rfl) ?_
    refine AtO.done (p' := [1, 0, 1]) (F' := [(0, .agg [.lit (.int .i64 x0.Rows), .sl (x0.Classes.map (eSl (eI .i64)))]), (1, .agg [.lit (.int .i64 x1.Rows), .sl (x1.Classes.map (eSl (eI .i64)))]), (2, .box [.lit (.int .i64 x0.Rows), .sl (x0.Classes.map (eSl (eI .i64)))]), (3, .box [.lit (.int .i64 x1.Rows), .sl (x1.Classes.map (eSl (eI .i64)))]), (19, .lit (.bool true))]) (by kernel_rfl) (by kernel_rfl) (by kernel_rfl) ?_
    refine Pt.cond_t (p' := [1, 0, 1, 0, 0]) (F' := []) (y := (.tmp 19)) (by kernel_rfl) (by kernel_rfl) (by kernel_rfl) (by kernel_rfl) ?_
    refine Pt.reg (by kernel_rfl) ?_
    refine AtO.seg 1 (by kernel_rfl) ?_
    refine AtO.done (p' := [1, 0, 1, 0, 1]) (F' := [(4, .lit (.bool false))]) (by kernel_rfl) (by kernel_rfl) (by kernel_rfl) ?_
    exact Pt.ret false (by kernel_rfl) (by kernel_rfl) h
  · have h := ite_t h (bne_f hc)
    refine AtO.seg 3 (by kernel_rfl) ?_
    refine AtO.val (by kernel_rfl) (val_len (x := (.tmp 13)) (t := 29) (et := 38) (d := .sl (x0.Classes.map (eSl (eI .i64)))) (e := (eSl (eI .i64))) (l := x0.Classes) (by kernel_rfl) (by kernel_rfl) elemsOf_sl (by kernel_rfl)) ?_
    refine AtO.seg 2 (by kernel_rfl) ?_
    refine AtO.val (by kernel_rfl) (val_len (x := (.tmp 16)) (t := 29) (et := 38) (d := .sl (x1.Classes.map (eSl (eI .i64)))) (e := (eSl (eI .i64))) (l := x1.Classes) (by kernel_rfl) (by kernel_rfl) elemsOf_sl (by kernel_rfl)) ?_
    refine AtO.bool (b := ((x0.Classes.length : Int) != (x1.Classes.length : Int))) (by kernel_rfl) (by kernel_rfl) (fun hc => ?_) (fun hc => ?_)
    · have h := ite_f h (bne_t hc)
      refine AtO.seg 1 (by kernel_rfl) ?_
      refine AtO.done (p' := [1, 0, 1]) (F' := [(0, .agg [.lit (.int .i64 x0.Rows), .sl (x0.Classes.map (eSl (eI .i64)))]), (1, .agg [.lit (.int .i64 x1.Rows), .sl (x1.Classes.map (eSl (eI .i64)))]), (2, .box [.lit (.int .i64 x0.Rows), .sl (x0.Classes.map (eSl (eI .i64)))]), (3, .box [.lit (.int .i64 x1.Rows), .sl (x1.Classes.map (eSl (eI .i64)))]), (19, .lit (.bool true))]) (by kernel_rfl) (by kernel_rfl) (by kernel_rfl) ?_
      refine Pt.cond_t (p' := [1, 0, 1, 0, 0]) (F' := []) (y := (.tmp 19)) (by kernel_rfl) (by kernel_rfl) (by kernel_rfl) (by kernel_rfl) ?_
      refine Pt.reg (by kernel_rfl) ?_
      refine AtO.seg 1 (by kernel_rfl) ?_
      refine AtO.done (p' := [1, 0, 1, 0, 1]) (F' := [(4, .lit (.bool false))]) (by kernel_rfl) (by kernel_rfl) (by kernel_rfl) ?_
      exact Pt.ret false (by kernel_rfl) (by kernel_rfl) h
    · have h := ite_t h (bne_f hc)
      refine AtO.seg 1 (by kernel_rfl) ?_
      refine AtO.done (p' := [1, 0, 1]) (F' := [(0, .agg [.lit (.int .i64 x0.Rows), .sl (x0.Classes.map (eSl (eI .i64)))]), (1, .agg [.lit (.int .i64 x1.Rows), .sl (x1.Classes.map (eSl (eI .i64)))]), (2, .box [.lit (.int .i64 x0.Rows), .sl (x0.Classes.map (eSl (eI .i64)))]), (3, .box [.lit (.int .i64 x1.Rows), .sl (x1.Classes.map (eSl (eI .i64)))]), (19, .lit (.bool false))]) (by kernel_rfl) (by kernel_rfl) (by kernel_rfl) ?_
      refine Pt.cond_f (p' := [1, 0, 1, 1]) (F' := [(0, .agg [.lit (.int .i64 x0.Rows), .sl (x0.Classes.map (eSl (eI .i64)))]), (1, .agg [.lit (.int .i64 x1.Rows), .sl (x1.Classes.map (eSl (eI .i64)))]), (2, .box [.lit (.int .i64 x0.Rows), .sl (x0.Classes.map (eSl (eI .i64)))]), (3, .box [.lit (.int .i64 x1.Rows), .sl (x1.Classes.map (eSl (eI .i64)))])]) (y := (.tmp 19)) (by kernel_rfl) (by kernel_rfl) (by kernel_rfl) (by kernel_rfl) ?_
      refine Pt.skip (p' := [1, 1, 0, 0]) (by kernel_rfl) (by kernel_rfl) ?_
      refine Pt.reg (by kernel_rfl) ?_
      refine AtO.seg 1 (by kernel_rfl) ?_
      refine AtO.done (p' := [1, 1, 0, 1, 0]) (F' := [(0, .agg [.lit (.int .i64 x0.Rows), .sl (x0.Classes.map (eSl (eI .i64)))]), (1, .agg [.lit (.int .i64 x1.Rows), .sl (x1.Classes.map (eSl (eI .i64)))]), (2, .box [.lit (.int .i64 x0.Rows), .sl (x0.Classes.map (eSl (eI .i64)))]), (3, .box [.lit (.int .i64 x1.Rows), .sl (x1.Classes.map (eSl (eI .i64)))]), (5, .lit (.int .i64 0))]) (by kernel_rfl) (by kernel_rfl) (by kernel_rfl) ?_
      exact h
end drossref08_Same
end Go.Own

namespace Go.Own
namespace drossref02_Ints
theorem loop {x0 x1 : List Int} {φ : Bool → Prop} (hn : x0.length < Big) (hl : x0.length = x1.length) : ∀ (r s : List Int) (k : Nat), x0.drop k = r → x1.drop k = s → φ (decide (r = s)) → L1 x0 x1 k φ
  | [], s, k, hd, he, h => by
    apply L1_step
    have := drop_ge hd
    rw [if_neg (by omega)]
    have : s = [] := by rw [← he]; exact List.drop_eq_nil_of_le (by omega)
    simpa [this] using h
  | a :: r, s, k, hd, he, h => by
    apply L1_step
    have hk := drop_lt hd
    rw [if_pos (by omega)]
    match s, he, h with
    | [], he, h => have := drop_ge he; omega
    | b :: s, he, h =>
      refine ⟨a, lget_drop hd, b, lget_drop he, ?_⟩
      split
      · rename_i hab
        rw [wrap_succ (by unfold Big at hn; omega)]
        refine loop hn hl r s (k + 1) (drop_next hd) (drop_next he) ?_
        simpa [hab] using h
      · rename_i hab
        simpa [hab] using h
theorem spec {x0 x1 : List Int} (hn : x0.length < Big) : C x0 x1 (decide (x0 = x1)) := by
  obtain ⟨r, h1, h2⟩ := enter x0 x1 (fun r => r = decide (x0 = x1)) (by
    split
    · rename_i h
      exact loop (φ := fun r => r = decide (x0 = x1)) hn (by omega) x0 x1 0 rfl rfl rfl
    · rename_i h
      have : x0 ≠ x1 := fun e => h (by rw [e])
      simp [this])
  rw [← h1]; exact h2
end drossref02_Ints
namespace drossref08_Same
theorem loop {x0 x1 : api_Partition} {φ : Bool → Prop} (hn : Small x0) (hl : x0.Classes.length = x1.Classes.length) : ∀ (r s : List (List Int)) (k : Nat), x0.Classes.drop k = r → x1.Classes.drop k = s → φ (decide (r = s)) → L1 x0 x1 k φ
  | [], s, k, hd, he, h => by
    apply L1_step
    have := drop_ge hd
    rw [if_neg (by omega)]
    have : s = [] := by rw [← he]; exact List.drop_eq_nil_of_le (by omega)
    simpa [this] using h
  | a :: r, s, k, hd, he, h => by
    apply L1_step
    have hk := drop_lt hd
    rw [if_pos (by omega)]
    match s, he, h with
    | [], he, h => have := drop_ge he; omega
    | b :: s, he, h =>
      refine ⟨a, lget_drop hd, b, lget_drop he, _, drossref02_Ints.spec (hn.2 a (List.mem_of_getElem? (drop_get hd))), ?_⟩
      split
      · rename_i hab
        have hab : a = b := by simpa using hab
        rw [wrap_succ (by have := hn.1; unfold Big at this; omega)]
        refine loop hn hl r s (k + 1) (drop_next hd) (drop_next he) ?_
        simpa [hab] using h
      · rename_i hab
        have hab : a ≠ b := by simpa using hab
        simpa [hab] using h
theorem spec {x0 x1 : api_Partition} (hn : Small x0) : C x0 x1 (decide (x0 = x1)) := by
  obtain ⟨r, h1, h2⟩ := enter x0 x1 (fun r => r = decide (x0 = x1)) (by
    obtain ⟨r0, c0⟩ := x0
    obtain ⟨r1, c1⟩ := x1
    simp only [api_Partition.mk.injEq]
    split
    · rename_i h
      split
      · rename_i h2
        refine loop (x0 := ⟨r0, c0⟩) (x1 := ⟨r1, c1⟩) (φ := fun r => r = decide (r0 = r1 ∧ c0 = c1)) hn (by simp only; omega) c0 c1 0 rfl rfl ?_
        simp [h]
      · rename_i h2
        have : c0 ≠ c1 := fun e => h2 (by rw [e])
        simp [this]
    · rename_i h
      simp [h])
  rw [← h1]; exact h2
end drossref08_Same
theorem zip_alike {α β : Type} [DecidableEq α] [DecidableEq β] {l : List α} {m : List β} (hl : l.length = m.length) (h : ∀ i j : Nat, i < l.length → j < l.length → (l[i]? = l[j]? ↔ m[i]? = m[j]?)) : part l = part m := by
  unfold part
  rw [grpF_alike (l := l) (m := m) ⟨hl, h⟩, hl]
theorem zip_get {γ δ : Type} {u : List γ} {v : List δ} {i j : Nat} (h : u.length = v.length) (hi : i < u.length) (hj : j < u.length) : ((u.zip v)[i]? = (u.zip v)[j]? ↔ u[i]? = u[j]? ∧ v[i]? = v[j]?) := by
  rw [List.getElem?_eq_getElem (by simp only [List.length_zip]; omega), List.getElem?_eq_getElem (by simp only [List.length_zip]; omega), List.getElem?_eq_getElem (l := u) (by omega), List.getElem?_eq_getElem (l := u) (i := j) (by omega), List.getElem?_eq_getElem (l := v) (by omega), List.getElem?_eq_getElem (l := v) (i := j) (by omega)]
  simp
end Go.Own

namespace Go.Own
open Go.Proofs D
set_option maxRecDepth 100000
set_option maxHeartbeats 4000000
namespace drosslaw08_awake
noncomputable def B : Code := (Tryd.f11.body).getD .skip
def W : List Nat := [0, 1, 2, 3, 4, 5, 6, 7, 8]
def res (r : Bool) : D × List D := (.lit (.bool r), [])
def C  (r : Bool) : Prop := Ret env 11 [] (res r).1 (res r).2
end drosslaw08_awake
end Go.Own

namespace Go.Own
set_option maxRecDepth 1000000
theorem drosslaw08_awake.run : callN env 400 11 [] = some (.lit (.bool true), []) := by kernel_rfl
theorem drosslaw08_awake.spec : drosslaw08_awake.C true := Ret.of drosslaw08_awake.run
end Go.Own

namespace Go.Own
open Go.Proofs D
set_option maxRecDepth 100000
set_option maxHeartbeats 4000000
namespace drossref08_Product
noncomputable def B : Code := (Tryd.f25.body).getD .skip
def W : List Nat := [0, 1, 2, 3, 4, 5, 6, 7, 8, 9, 10, 18, 24, 36, 46, 68]
def res (r : api_Partition × Int) : D × List D := (.tup [.agg [.lit (.int .i64 r.1.Rows), .own (r.1.Classes.map (eOw (eI .i64)))], .lit (.int .i64 r.2)], [])
def C (x0 : api_Partition) (x1 : api_Partition) (r : api_Partition × Int) : Prop := Ret env 25 [.agg [.lit (.int .i64 x0.Rows), .sl (x0.Classes.map (eSl (eI .i64)))], .agg [.lit (.int .i64 x1.Rows), .sl (x1.Classes.map (eSl (eI .i64)))]] (res r).1 (res r).2
def L1 (x0 : api_Partition) (r5 : List Int) (r7 : List Int) (y8_L1 : List Int) (y9_L1 : Int) (φ : api_Partition × Int → Prop) : Prop := Pt env 25 W B [1, 1, 1, 1, 1, 0, 1, 0] [(0, .agg [.lit (.int .i64 x0.Rows), .sl (x0.Classes.map (eSl (eI .i64)))]), (2, .box [.lit (.int .i64 x0.Rows), .sl (x0.Classes.map (eSl (eI .i64)))]), (4, .box [.lit (.int .i64 0), .own []]), (6, .own (r5.map (eI .i64))), (7, .own (r7.map (eI .i64))), (8, .own (y8_L1.map (eI .i64))), (9, .lit (.int .i64 y9_L1))] (Lv env 25 Tryd.f25 2 res φ)
def L2 (x0 : api_Partition) (r5 : List Int) (r7 : List Int) (y8_L2 : List Int) (y9_L2 : Int) (y10_L2 : Int) (φ : api_Partition × Int → Prop) : Prop := Pt env 25 W B [1, 1, 1, 1, 1, 0, 1, 0, 0, 1, 0, 0, 1, 1, 0] [(0, .agg [.lit (.int .i64 x0.Rows), .sl (x0.Classes.map (eSl (eI .i64)))]), (2, .box [.lit (.int .i64 x0.Rows), .sl (x0.Classes.map (eSl (eI .i64)))]), (4, .box [.lit (.int .i64 0), .own []]), (6, .own (r5.map (eI .i64))), (7, .own (r7.map (eI .i64))), (8, .own (y8_L2.map (eI .i64))), (9, .lit (.int .i64 y9_L2)), (10, .lit (.int .i64 y10_L2))] (Lv env 25 Tryd.f25 2 res φ)
def L3 (x0 : api_Partition) (r5 : List Int) (r7 : List Int) (y8_L3 : List Int) (y9_L3 : Int) (y10_L2 : Int) (φ : api_Partition × Int → Prop) : Prop := Pt env 25 W B [1, 1, 1, 1, 1, 0, 1, 0, 0, 1, 0, 0, 1, 1, 0, 0, 1, 1] [(0, .agg [.lit (.int .i64 x0.Rows), .sl (x0.Classes.map (eSl (eI .i64)))]), (2, .box [.lit (.int .i64 x0.Rows), .sl (x0.Classes.map (eSl (eI .i64)))]), (4, .box [.lit (.int .i64 0), .own []]), (6, .own (r5.map (eI .i64))), (7, .own (r7.map (eI .i64))), (8, .own (y8_L3.map (eI .i64))), (9, .lit (.int .i64 y9_L3)), (10, .lit (.int .i64 y10_L2))] (Lv env 25 Tryd.f25 2 res φ)
theorem L1_step (x0 : api_Partition) (r5 : List Int) (r7 : List Int) (y8_L1 : List Int) (y9_L1 : Int) (φ : api_Partition × Int → Prop) (h :
    (if y9_L1 < x0.Rows then
      ∃ a10, lget y8_L1 y9_L1 = some a10 ∧
      drossref08_Product.L2 x0 r5 r7 ((lset y8_L1 y9_L1 y9_L1)) y9_L1 ((IntKind.wrap .i64 (y9_L1 - 1))) φ
    else
      ∃ r12 : api_Partition, drossref08_group.C y8_L1 r12 ∧
      φ ((r12, 0)))) : L1 x0 r5 r7 y8_L1 y9_L1 φ := by
  unfold L1
  refine Pt.loop (p' := [1, 1, 1, 1, 1, 0, 1, 0, 0, 0, 0]) (by kernel_rfl) (by kernel_rfl) ?_
  refine Pt.reg (by kernel_rfl) ?_
  refine AtO.seg 3 (by kernel_rfl) ?_
  refine AtO.bool (b := (decide (y9_L1 < x0.Rows))) (by kernel_rfl) (by kernel_rfl) (fun hc => ?_) (fun hc => ?_)
  · have h := ite_t h (of_decide_eq_true hc)
    refine AtO.done (p' := [1, 1, 1, 1, 1, 0, 1, 0, 0, 0, 1]) (F' := [(0, .agg [.lit (.int .i64 x0.Rows), .sl (x0.Classes.map (eSl (eI .i64)))]), (2, .box [.lit (.int .i64 x0.Rows), .sl (x0.Classes.map (eSl (eI .i64)))]), (4, .box [.lit (.int .i64 0), .own []]), (6, .own (r5.map (eI .i64))), (7, .own (r7.map (eI .i64))), (8, .own (y8_L1.map (eI .i64))), (9, .lit (.int .i64 y9_L1)), (36, .lit (.bool true))]) (by kernel_rfl) (by kernel_rfl) (by kernel_rfl) ?_
    refine Pt.cond_t (p' := [1, 1, 1, 1, 1, 0, 1, 0, 0, 0, 1, 0]) (F' := [(0, .agg [.lit (.int .i64 x0.Rows), .sl (x0.Classes.map (eSl (eI .i64)))]), (2, .box [.lit (.int .i64 x0.Rows), .sl (x0.Classes.map (eSl (eI .i64)))]), (4, .box [.lit (.int .i64 0), .own []]), (6, .own (r5.map (eI .i64))), (7, .own (r7.map (eI .i64))), (8, .own (y8_L1.map (eI .i64))), (9, .lit (.int .i64 y9_L1))]) (y := (.tmp 36)) (by kernel_rfl) (by kernel_rfl) (by kernel_rfl) (by kernel_rfl) ?_
    refine Pt.skip (p' := [1, 1, 1, 1, 1, 0, 1, 0, 0, 1, 0, 0, 0]) (by kernel_rfl) (by kernel_rfl) ?_
    refine Pt.reg (by kernel_rfl) ?_
    obtain ⟨a10, h11, h⟩ := h
    refine AtO.seg 3 (by kernel_rfl) ?_
    refine AtO.val (by kernel_rfl) (val_idx_ow (s := 8) (ps := []) (t := 38) (x := (.tmp 39)) (ix := (.tmp 40)) (et := 3) (k := 1) (e := (eI .i64)) (l := y8_L1) (i := y9_L1) (q := .i64) (a := a10) (by kernel_rfl) (by kernel_rfl) (by kernel_rfl) (by kernel_rfl) (by kernel_rfl) (by kernel_rfl) h11 (by kernel_rfl)) ?_
    refine AtO.op (by kernel_rfl) (store1 (t := 3) (x := (.tmp 42)) (y := (.tmp 41)) (s := 8) (ps := []) (n := (y9_L1.toNat)) (c := 0) (e := (eI .i64)) (l := y8_L1) (a := a10) (b := y9_L1) (k := 1) (d := .lit (.int .i64 y9_L1)) (by kernel_rfl) (by kernel_rfl) (by kernel_rfl) (by kernel_rfl) (lget_some h11).2 (by kernel_rfl) (by kernel_rfl) (by kernel_rfl) (by kernel_rfl) (by kernel_rfl) (setG_eq (by kernel_rfl))) ?_
    refine AtO.done (p' := [1, 1, 1, 1, 1, 0, 1, 0, 0, 1, 0, 0, 1, 0]) (F' := [(0, .agg [.lit (.int .i64 x0.Rows), .sl (x0.Classes.map (eSl (eI .i64)))]), (2, .box [.lit (.int .i64 x0.Rows), .sl (x0.Classes.map (eSl (eI .i64)))]), (4, .box [.lit (.int .i64 0), .own []]), (6, .own (r5.map (eI .i64))), (7, .own (r7.map (eI .i64))), (8, .own (((lset y8_L1 y9_L1 y9_L1)).map (eI .i64))), (9, .lit (.int .i64 y9_L1))]) (by kernel_rfl) (by kernel_rfl) (by kernel_rfl) ?_
    refine Pt.reg (by kernel_rfl) ?_
    refine AtO.seg 3 (by kernel_rfl) ?_
    refine AtO.done (p' := [1, 1, 1, 1, 1, 0, 1, 0, 0, 1, 0, 0, 1, 1, 0]) (F' := [(0, .agg [.lit (.int .i64 x0.Rows), .sl (x0.Classes.map (eSl (eI .i64)))]), (2, .box [.lit (.int .i64 x0.Rows), .sl (x0.Classes.map (eSl (eI .i64)))]), (4, .box [.lit (.int .i64 0), .own []]), (6, .own (r5.map (eI .i64))), (7, .own (r7.map (eI .i64))), (8, .own (((lset y8_L1 y9_L1 y9_L1)).map (eI .i64))), (9, .lit (.int .i64 y9_L1)), (10, .lit (.int .i64 ((IntKind.wrap .i64 (y9_L1 - 1)))))]) (by kernel_rfl) (by kernel_rfl) (by kernel_rfl) ?_
    exact h
  · have h := ite_f h (of_decide_eq_false hc)
    refine AtO.done (p' := [1, 1, 1, 1, 1, 0, 1, 0, 0, 0, 1]) (F' := [(0, .agg [.lit (.int .i64 x0.Rows), .sl (x0.Classes.map (eSl (eI .i64)))]), (2, .box [.lit (.int .i64 x0.Rows), .sl (x0.Classes.map (eSl (eI .i64)))]), (4, .box [.lit (.int .i64 0), .own []]), (6, .own (r5.map (eI .i64))), (7, .own (r7.map (eI .i64))), (8, .own (y8_L1.map (eI .i64))), (9, .lit (.int .i64 y9_L1)), (36, .lit (.bool false))]) (by kernel_rfl) (by kernel_rfl) (by kernel_rfl) ?_
    refine Pt.cond_f (p' := [1, 1, 1, 1, 1, 0, 1, 0, 0, 0, 1, 1]) (F' := [(4, .box [.lit (.int .i64 0), .own []]), (8, .own (y8_L1.map (eI .i64)))]) (y := (.tmp 36)) (by kernel_rfl) (by kernel_rfl) (by kernel_rfl) (by kernel_rfl) ?_
    refine Pt.exit (p' := [1, 1, 1, 1, 1, 1, 0]) (F' := [(4, .box [.lit (.int .i64 0), .own []]), (8, .own (y8_L1.map (eI .i64)))]) (by kernel_rfl) (by kernel_rfl) (by kernel_rfl) ?_
    refine Pt.reg (by kernel_rfl) ?_
    obtain ⟨r12, h13, h⟩ := h
    refine AtO.seg 1 (by kernel_rfl) ?_
    refine AtO.call0 (x := (.func 37)) (g := 37) (caps := []) (agl := [.opn (.tmp 76)]) (ds := [.sl (y8_L1.map (eI .i64))]) (r := .agg [.lit (.int .i64 r12.Rows), .own (r12.Classes.map (eOw (eI .i64)))]) (r' := .agg [.lit (.int .i64 r12.Rows), .own (r12.Classes.map (eOw (eI .i64)))]) (ms := [none]) (by kernel_rfl) (by kernel_rfl) (by kernel_rfl) (by kernel_rfl) (by kernel_rfl) (by kernel_rfl) (pass_snap (a := .opn (.tmp 76)) (d0 := .alias 8 []) (d := .sl (y8_L1.map (eI .i64))) (by kernel_rfl) (by kernel_rfl) (snap_ow (s := 8) (ps := []) (l := y8_L1) (e := (eI .i64)) (e' := (eI .i64)) (fun _ => rfl) (by kernel_rfl)) pass_nil) h13 (flat_agg (flts_cons rfl (flts_cons (flat_ow (e := (eOw (eI .i64))) (Flt.ow (fun _ => rfl))) flts_nil))) (by kernel_rfl) ?_
    refine AtO.seg 2 (by kernel_rfl) ?_
    refine AtO.done (p' := [1, 1, 1, 1, 1, 1, 1]) (F' := [(4, .box [.lit (.int .i64 r12.Rows), .own (r12.Classes.map (eOw (eI .i64)))]), (5, .lit (.int .i64 0))]) (by kernel_rfl) (by kernel_rfl) (by kernel_rfl) ?_
    exact Pt.ret ((r12, 0)) (by kernel_rfl) (by kernel_rfl) h
theorem L2_step (x0 : api_Partition) (r5 : List Int) (r7 : List Int) (y8_L2 : List Int) (y9_L2 : Int) (y10_L2 : Int) (φ : api_Partition × Int → Prop) (h :
    (if 0 ≤ y10_L2 then
      ∃ a14, lget r5 y9_L2 = some a14 ∧
      ∃ a16, lget r5 y10_L2 = some a16 ∧
      (if a14 = a16 then
        ∃ a18, lget r7 y9_L2 = some a18 ∧
        ∃ a20, lget r7 y10_L2 = some a20 ∧
        (if a18 = a20 then
          ∃ a22, lget y8_L2 y10_L2 = some a22 ∧
          ∃ a24, lget y8_L2 y9_L2 = some a24 ∧
          drossref08_Product.L3 x0 r5 r7 ((lset y8_L2 y9_L2 a22)) y9_L2 y10_L2 φ
        else
          drossref08_Product.L3 x0 r5 r7 y8_L2 y9_L2 y10_L2 φ)
      else
        drossref08_Product.L3 x0 r5 r7 y8_L2 y9_L2 y10_L2 φ)
    else
      drossref08_Product.L1 x0 r5 r7 y8_L2 ((IntKind.wrap .i64 (y9_L2 + 1))) φ)) : L2 x0 r5 r7 y8_L2 y9_L2 y10_L2 φ := by
  unfold L2
  refine Pt.loop (p' := [1, 1, 1, 1, 1, 0, 1, 0, 0, 1, 0, 0, 1, 1, 0, 0, 0, 0]) (by kernel_rfl) (by kernel_rfl) ?_
  refine Pt.reg (by kernel_rfl) ?_
  refine AtO.seg 1 (by kernel_rfl) ?_
  refine AtO.bool (b := (decide (0 ≤ y10_L2))) (by kernel_rfl) (by kernel_rfl) (fun hc => ?_) (fun hc => ?_)
  · have h := ite_t h (of_decide_eq_true hc)
    refine AtO.done (p' := [1, 1, 1, 1, 1, 0, 1, 0, 0, 1, 0, 0, 1, 1, 0, 0, 0, 1]) (F' := [(0, .agg [.lit (.int .i64 x0.Rows), .sl (x0.Classes.map (eSl (eI .i64)))]), (2, .box [.lit (.int .i64 x0.Rows), .sl (x0.Classes.map (eSl (eI .i64)))]), (4, .box [.lit (.int .i64 0), .own []]), (6, .own (r5.map (eI .i64))), (7, .own (r7.map (eI .i64))), (8, .own (y8_L2.map (eI .i64))), (9, .lit (.int .i64 y9_L2)), (10, .lit (.int .i64 y10_L2)), (46, .lit (.bool true))]) (by kernel_rfl) (by kernel_rfl) (by kernel_rfl) ?_
    refine Pt.cond_t (p' := [1, 1, 1, 1, 1, 0, 1, 0, 0, 1, 0, 0, 1, 1, 0, 0, 0, 1, 0]) (F' := [(0, .agg [.lit (.int .i64 x0.Rows), .sl (x0.Classes.map (eSl (eI .i64)))]), (2, .box [.lit (.int .i64 x0.Rows), .sl (x0.Classes.map (eSl (eI .i64)))]), (4, .box [.lit (.int .i64 0), .own []]), (6, .own (r5.map (eI .i64))), (7, .own (r7.map (eI .i64))), (8, .own (y8_L2.map (eI .i64))), (9, .lit (.int .i64 y9_L2)), (10, .lit (.int .i64 y10_L2))]) (y := (.tmp 46)) (by kernel_rfl) (by kernel_rfl) (by kernel_rfl) (by kernel_rfl) ?_
    refine Pt.skip (p' := [1, 1, 1, 1, 1, 0, 1, 0, 0, 1, 0, 0, 1, 1, 0, 0, 1, 0, 0, 0]) (by kernel_rfl) (by kernel_rfl) ?_
    refine Pt.reg (by kernel_rfl) ?_
    obtain ⟨a14, h15, h⟩ := h
    refine AtO.seg 2 (by kernel_rfl) ?_
    refine AtO.val (by kernel_rfl) (val_idx_ow (s := 6) (ps := []) (t := 38) (x := (.tmp 49)) (ix := (.tmp 50)) (et := 3) (k := 1) (e := (eI .i64)) (l := r5) (i := y9_L2) (q := .i64) (a := a14) (by kernel_rfl) (by kernel_rfl) (by kernel_rfl) (by kernel_rfl) (by kernel_rfl) (by kernel_rfl) h15 (by kernel_rfl)) ?_
    refine AtO.val (by kernel_rfl) (val_load_ow (t := 3) (x := (.tmp 51)) (s := 6) (ps := []) (n := (y9_L2.toNat)) (c := 0) (e := (eI .i64)) (l := r5) (a := a14) (d := .lit (.int .i64 a14)) (by kernel_rfl) (by kernel_rfl) (by kernel_rfl) (by kernel_rfl) (lget_some h15).2 (by kernel_rfl)) ?_
    obtain ⟨a16, h17, h⟩ := h
    refine AtO.seg 2 (by kernel_rfl) ?_
    refine AtO.val (by kernel_rfl) (val_idx_ow (s := 6) (ps := []) (t := 38) (x := (.tmp 53)) (ix := (.tmp 54)) (et := 3) (k := 1) (e := (eI .i64)) (l := r5) (i := y10_L2) (q := .i64) (a := a16) (by kernel_rfl) (by kernel_rfl) (by kernel_rfl) (by kernel_rfl) (by kernel_rfl) (by kernel_rfl) h17 (by kernel_rfl)) ?_
    refine AtO.val (by kernel_rfl) (val_load_ow (t := 3) (x := (.tmp 55)) (s := 6) (ps := []) (n := (y10_L2.toNat)) (c := 0) (e := (eI .i64)) (l := r5) (a := a16) (d := .lit (.int .i64 a16)) (by kernel_rfl) (by kernel_rfl) (by kernel_rfl) (by kernel_rfl) (lget_some h17).2 (by kernel_rfl)) ?_
    refine AtO.bool (b := (a14 == a16)) (by kernel_rfl) (by kernel_rfl) (fun hc => ?_) (fun hc => ?_)
    · have h := ite_t h (beq_t hc)
      obtain ⟨a18, h19, h⟩ := h
      refine AtO.seg 3 (by kernel_rfl) ?_
      refine AtO.val (by kernel_rfl) (val_idx_ow (s := 7) (ps := []) (t := 38) (x := (.tmp 59)) (ix := (.tmp 60)) (et := 3) (k := 1) (e := (eI .i64)) (l := r7) (i := y9_L2) (q := .i64) (a := a18) (by kernel_rfl) (by kernel_rfl) (by kernel_rfl) (by kernel_rfl) (by kernel_rfl) (by kernel_rfl) h19 (by kernel_rfl)) ?_
      refine AtO.val (by kernel_rfl) (val_load_ow (t := 3) (x := (.tmp 61)) (s := 7) (ps := []) (n := (y9_L2.toNat)) (c := 0) (e := (eI .i64)) (l := r7) (a := a18) (d := .lit (.int .i64 a18)) (by kernel_rfl) (by kernel_rfl) (by kernel_rfl) (by kernel_rfl) (lget_some h19).2 (by kernel_rfl)) ?_
      obtain ⟨a20, h21, h⟩ := h
      refine AtO.seg 2 (by kernel_rfl) ?_
      refine AtO.val (by kernel_rfl) (val_idx_ow (s := 7) (ps := []) (t := 38) (x := (.tmp 63)) (ix := (.tmp 64)) (et := 3) (k := 1) (e := (eI .i64)) (l := r7) (i := y10_L2) (q := .i64) (a := a20) (by kernel_rfl) (by kernel_rfl) (by kernel_rfl) (by kernel_rfl) (by kernel_rfl) (by kernel_rfl) h21 (by kernel_rfl)) ?_
      refine AtO.val (by kernel_rfl) (val_load_ow (t := 3) (x := (.tmp 65)) (s := 7) (ps := []) (n := (y10_L2.toNat)) (c := 0) (e := (eI .i64)) (l := r7) (a := a20) (d := .lit (.int .i64 a20)) (by kernel_rfl) (by kernel_rfl) (by kernel_rfl) (by kernel_rfl) (lget_some h21).2 (by kernel_rfl)) ?_
      refine AtO.bool (b := (a18 == a20)) (by kernel_rfl) (by kernel_rfl) (fun hc => ?_) (fun hc => ?_)
      · have h := ite_t h (beq_t hc)
        refine AtO.seg 1 (by kernel_rfl) ?_
        refine AtO.done (p' := [1, 1, 1, 1, 1, 0, 1, 0, 0, 1, 0, 0, 1, 1, 0, 0, 1, 0, 0, 1]) (F' := [(0, .agg [.lit (.int .i64 x0.Rows), .sl (x0.Classes.map (eSl (eI .i64)))]), (2, .box [.lit (.int .i64 x0.Rows), .sl (x0.Classes.map (eSl (eI .i64)))]), (4, .box [.lit (.int .i64 0), .own []]), (6, .own (r5.map (eI .i64))), (7, .own (r7.map (eI .i64))), (8, .own (y8_L2.map (eI .i64))), (9, .lit (.int .i64 y9_L2)), (10, .lit (.int .i64 y10_L2)), (68, .lit (.bool true))]) (by kernel_rfl) (by kernel_rfl) (by kernel_rfl) ?_
        refine Pt.cond_t (p' := [1, 1, 1, 1, 1, 0, 1, 0, 0, 1, 0, 0, 1, 1, 0, 0, 1, 0, 0, 1, 0]) (F' := [(0, .agg [.lit (.int .i64 x0.Rows), .sl (x0.Classes.map (eSl (eI .i64)))]), (2, .box [.lit (.int .i64 x0.Rows), .sl (x0.Classes.map (eSl (eI .i64)))]), (4, .box [.lit (.int .i64 0), .own []]), (6, .own (r5.map (eI .i64))), (7, .own (r7.map (eI .i64))), (8, .own (y8_L2.map (eI .i64))), (9, .lit (.int .i64 y9_L2)), (10, .lit (.int .i64 y10_L2))]) (y := (.tmp 68)) (by kernel_rfl) (by kernel_rfl) (by kernel_rfl) (by kernel_rfl) ?_
        refine Pt.reg (by kernel_rfl) ?_
        obtain ⟨a22, h23, h⟩ := h
        refine AtO.seg 4 (by kernel_rfl) ?_
        refine AtO.val (by kernel_rfl) (val_idx_ow (s := 8) (ps := []) (t := 38) (x := (.tmp 71)) (ix := (.tmp 72)) (et := 3) (k := 1) (e := (eI .i64)) (l := y8_L2) (i := y10_L2) (q := .i64) (a := a22) (by kernel_rfl) (by kernel_rfl) (by kernel_rfl) (by kernel_rfl) (by kernel_rfl) (by kernel_rfl) h23 (by kernel_rfl)) ?_
        refine AtO.val (by kernel_rfl) (val_load_ow (t := 3) (x := (.tmp 73)) (s := 8) (ps := []) (n := (y10_L2.toNat)) (c := 0) (e := (eI .i64)) (l := y8_L2) (a := a22) (d := .lit (.int .i64 a22)) (by kernel_rfl) (by kernel_rfl) (by kernel_rfl) (by kernel_rfl) (lget_some h23).2 (by kernel_rfl)) ?_
        obtain ⟨a24, h25, h⟩ := h
        refine AtO.val (by kernel_rfl) (val_idx_ow (s := 8) (ps := []) (t := 38) (x := (.tmp 69)) (ix := (.tmp 70)) (et := 3) (k := 1) (e := (eI .i64)) (l := y8_L2) (i := y9_L2) (q := .i64) (a := a24) (by kernel_rfl) (by kernel_rfl) (by kernel_rfl) (by kernel_rfl) (by kernel_rfl) (by kernel_rfl) h25 (by kernel_rfl)) ?_
        refine AtO.op (by kernel_rfl) (store1 (t := 3) (x := (.tmp 75)) (y := (.tmp 74)) (s := 8) (ps := []) (n := (y9_L2.toNat)) (c := 0) (e := (eI .i64)) (l := y8_L2) (a := a24) (b := a22) (k := 1) (d := .lit (.int .i64 a22)) (by kernel_rfl) (by kernel_rfl) (by kernel_rfl) (by kernel_rfl) (lget_some h25).2 (by kernel_rfl) (by kernel_rfl) (by kernel_rfl) (by kernel_rfl) (by kernel_rfl) (setG_eq (by kernel_rfl))) ?_
        refine AtO.done (p' := [1, 1, 1, 1, 1, 0, 1, 0, 0, 1, 0, 0, 1, 1, 0, 0, 1, 1]) (F' := [(0, .agg [.lit (.int .i64 x0.Rows), .sl (x0.Classes.map (eSl (eI .i64)))]), (2, .box [.lit (.int .i64 x0.Rows), .sl (x0.Classes.map (eSl (eI .i64)))]), (4, .box [.lit (.int .i64 0), .own []]), (6, .own (r5.map (eI .i64))), (7, .own (r7.map (eI .i64))), (8, .own (((lset y8_L2 y9_L2 a22)).map (eI .i64))), (9, .lit (.int .i64 y9_L2)), (10, .lit (.int .i64 y10_L2))]) (by kernel_rfl) (by kernel_rfl) (by kernel_rfl) ?_
        exact h
      · have h := ite_f h (beq_f hc)
        refine AtO.seg 1 (by kernel_rfl) ?_
        refine AtO.done (p' := [1, 1, 1, 1, 1, 0, 1, 0, 0, 1, 0, 0, 1, 1, 0, 0, 1, 0, 0, 1]) (F' := [(0, .agg [.lit (.int .i64 x0.Rows), .sl (x0.Classes.map (eSl (eI .i64)))]), (2, .box [.lit (.int .i64 x0.Rows), .sl (x0.Classes.map (eSl (eI .i64)))]), (4, .box [.lit (.int .i64 0), .own []]), (6, .own (r5.map (eI .i64))), (7, .own (r7.map (eI .i64))), (8, .own (y8_L2.map (eI .i64))), (9, .lit (.int .i64 y9_L2)), (10, .lit (.int .i64 y10_L2)), (68, .lit (.bool false))]) (by kernel_rfl) (by kernel_rfl) (by kernel_rfl) ?_
        refine Pt.cond_f (p' := [1, 1, 1, 1, 1, 0, 1, 0, 0, 1, 0, 0, 1, 1, 0, 0, 1, 0, 0, 1, 1]) (F' := [(0, .agg [.lit (.int .i64 x0.Rows), .sl (x0.Classes.map (eSl (eI .i64)))]), (2, .box [.lit (.int .i64 x0.Rows), .sl (x0.Classes.map (eSl (eI .i64)))]), (4, .box [.lit (.int .i64 0), .own []]), (6, .own (r5.map (eI .i64))), (7, .own (r7.map (eI .i64))), (8, .own (y8_L2.map (eI .i64))), (9, .lit (.int .i64 y9_L2)), (10, .lit (.int .i64 y10_L2))]) (y := (.tmp 68)) (by kernel_rfl) (by kernel_rfl) (by kernel_rfl) (by kernel_rfl) ?_
        refine Pt.skip (p' := [1, 1, 1, 1, 1, 0, 1, 0, 0, 1, 0, 0, 1, 1, 0, 0, 1, 1]) (by kernel_rfl) (by kernel_rfl) ?_
        exact h
    · have h := ite_f h (beq_f hc)
      refine AtO.seg 11 (by kernel_rfl) ?_
      refine AtO.done (p' := [1, 1, 1, 1, 1, 0, 1, 0, 0, 1, 0, 0, 1, 1, 0, 0, 1, 0, 0, 1]) (F' := [(0, .agg [.lit (.int .i64 x0.Rows), .sl (x0.Classes.map (eSl (eI .i64)))]), (2, .box [.lit (.int .i64 x0.Rows), .sl (x0.Classes.map (eSl (eI .i64)))]), (4, .box [.lit (.int .i64 0), .own []]), (6, .own (r5.map (eI .i64))), (7, .own (r7.map (eI .i64))), (8, .own (y8_L2.map (eI .i64))), (9, .lit (.int .i64 y9_L2)), (10, .lit (.int .i64 y10_L2)), (68, .lit (.bool false))]) (by kernel_rfl) (by kernel_rfl) (by kernel_rfl) ?_
      refine Pt.cond_f (p' := [1, 1, 1, 1, 1, 0, 1, 0, 0, 1, 0, 0, 1, 1, 0, 0, 1, 0, 0, 1, 1]) (F' := [(0, .agg [.lit (.int .i64 x0.Rows), .sl (x0.Classes.map (eSl (eI .i64)))]), (2, .box [.lit (.int .i64 x0.Rows), .sl (x0.Classes.map (eSl (eI .i64)))]), (4, .box [.lit (.int .i64 0), .own []]), (6, .own (r5.map (eI .i64))), (7, .own (r7.map (eI .i64))), (8, .own (y8_L2.map (eI .i64))), (9, .lit (.int .i64 y9_L2)), (10, .lit (.int .i64 y10_L2))]) (y := (.tmp 68)) (by kernel_rfl) (by kernel_rfl) (by kernel_rfl) (by kernel_rfl) ?_
      refine Pt.skip (p' := [1, 1, 1, 1, 1, 0, 1, 0, 0, 1, 0, 0, 1, 1, 0, 0, 1, 1]) (by kernel_rfl) (by kernel_rfl) ?_
      exact h
  · have h := ite_f h (of_decide_eq_false hc)
    refine AtO.done (p' := [1, 1, 1, 1, 1, 0, 1, 0, 0, 1, 0, 0, 1, 1, 0, 0, 0, 1]) (F' := [(0, .agg [.lit (.int .i64 x0.Rows), .sl (x0.Classes.map (eSl (eI .i64)))]), (2, .box [.lit (.int .i64 x0.Rows), .sl (x0.Classes.map (eSl (eI .i64)))]), (4, .box [.lit (.int .i64 0), .own []]), (6, .own (r5.map (eI .i64))), (7, .own (r7.map (eI .i64))), (8, .own (y8_L2.map (eI .i64))), (9, .lit (.int .i64 y9_L2)), (10, .lit (.int .i64 y10_L2)), (46, .lit (.bool false))]) (by kernel_rfl) (by kernel_rfl) (by kernel_rfl) ?_
    refine Pt.cond_f (p' := [1, 1, 1, 1, 1, 0, 1, 0, 0, 1, 0, 0, 1, 1, 0, 0, 0, 1, 1]) (F' := [(0, .agg [.lit (.int .i64 x0.Rows), .sl (x0.Classes.map (eSl (eI .i64)))]), (2, .box [.lit (.int .i64 x0.Rows), .sl (x0.Classes.map (eSl (eI .i64)))]), (4, .box [.lit (.int .i64 0), .own []]), (6, .own (r5.map (eI .i64))), (7, .own (r7.map (eI .i64))), (8, .own (y8_L2.map (eI .i64))), (9, .lit (.int .i64 y9_L2))]) (y := (.tmp 46)) (by kernel_rfl) (by kernel_rfl) (by kernel_rfl) (by kernel_rfl) ?_
    refine Pt.exit (p' := [1, 1, 1, 1, 1, 0, 1, 0, 0, 1, 1]) (F' := [(0, .agg [.lit (.int .i64 x0.Rows), .sl (x0.Classes.map (eSl (eI .i64)))]), (2, .box [.lit (.int .i64 x0.Rows), .sl (x0.Classes.map (eSl (eI .i64)))]), (4, .box [.lit (.int .i64 0), .own []]), (6, .own (r5.map (eI .i64))), (7, .own (r7.map (eI .i64))), (8, .own (y8_L2.map (eI .i64))), (9, .lit (.int .i64 y9_L2))]) (by kernel_rfl) (by kernel_rfl) (by kernel_rfl) ?_
    refine Pt.reg (by kernel_rfl) ?_
    refine AtO.seg 3 (by kernel_rfl) ?_
    refine AtO.done (p' := [1, 1, 1, 1, 1, 0, 1, 0]) (F' := [(0, .agg [.lit (.int .i64 x0.Rows), .sl (x0.Classes.map (eSl (eI .i64)))]), (2, .box [.lit (.int .i64 x0.Rows), .sl (x0.Classes.map (eSl (eI .i64)))]), (4, .box [.lit (.int .i64 0), .own []]), (6, .own (r5.map (eI .i64))), (7, .own (r7.map (eI .i64))), (8, .own (y8_L2.map (eI .i64))), (9, .lit (.int .i64 ((IntKind.wrap .i64 (y9_L2 + 1)))))]) (by kernel_rfl) (by kernel_rfl) (by kernel_rfl) ?_
    exact h
theorem L3_step (x0 : api_Partition) (r5 : List Int) (r7 : List Int) (y8_L3 : List Int) (y9_L3 : Int) (y10_L2 : Int) (φ : api_Partition × Int → Prop) (h :
    drossref08_Product.L2 x0 r5 r7 y8_L3 y9_L3 ((IntKind.wrap .i64 (y10_L2 - 1))) φ) : L3 x0 r5 r7 y8_L3 y9_L3 y10_L2 φ := by
  unfold L3
  refine Pt.reg (by kernel_rfl) ?_
  refine AtO.seg 3 (by kernel_rfl) ?_
  refine AtO.done (p' := [1, 1, 1, 1, 1, 0, 1, 0, 0, 1, 0, 0, 1, 1, 0]) (F' := [(0, .agg [.lit (.int .i64 x0.Rows), .sl (x0.Classes.map (eSl (eI .i64)))]), (2, .box [.lit (.int .i64 x0.Rows), .sl (x0.Classes.map (eSl (eI .i64)))]), (4, .box [.lit (.int .i64 0), .own []]), (6, .own (r5.map (eI .i64))), (7, .own (r7.map (eI .i64))), (8, .own (y8_L3.map (eI .i64))), (9, .lit (.int .i64 y9_L3)), (10, .lit (.int .i64 ((IntKind.wrap .i64 (y10_L2 - 1)))))]) (by kernel_rfl) (by kernel_rfl) (by kernel_rfl) ?_
  exact h
theorem enter (x0 : api_Partition) (x1 : api_Partition) (φ : api_Partition × Int → Prop) (h :
    ∃ r1 : Bool, drossref08_Valid.C x0 r1 ∧
    (if r1 = true then
      ∃ r3 : Bool, drossref08_Valid.C x1 r3 ∧
      (if r3 = true then
        (if x0.Rows = x1.Rows then
          ∃ r5 : List Int, drossref08_Labels.C x0 r5 ∧
          ∃ r7 : List Int, drossref08_Labels.C x1 r7 ∧
          (0 ≤ x0.Rows ∧ x0.Rows * 8 ≤ 281474976710656) ∧
          drossref08_Product.L1 x0 r5 r7 ((List.replicate x0.Rows.toNat (0 : Int))) 0 φ
        else
          φ (((⟨0, []⟩ : api_Partition), 6)))
      else
        φ (((⟨0, []⟩ : api_Partition), 1)))
    else
      φ (((⟨0, []⟩ : api_Partition), 1)))) : ∃ r, φ r ∧ C x0 x1 r := by
  refine Ret.of_at (E := env) (f := 25) (fd := Tryd.f25) (body := B) (p := [0]) (V := W) (F := [(0, .agg [.lit (.int .i64 x0.Rows), .sl (x0.Classes.map (eSl (eI .i64)))]), (1, .agg [.lit (.int .i64 x1.Rows), .sl (x1.Classes.map (eSl (eI .i64)))]), (2, .undef), (3, .undef), (4, .undef), (5, .undef), (6, .undef), (7, .undef), (8, .undef), (9, .undef), (10, .undef), (18, .undef), (24, .undef), (36, .undef), (46, .undef), (68, .undef)]) (res := res) (φ := φ) (ds := [.agg [.lit (.int .i64 x0.Rows), .sl (x0.Classes.map (eSl (eI .i64)))], .agg [.lit (.int .i64 x1.Rows), .sl (x1.Classes.map (eSl (eI .i64)))]]) (by kernel_rfl) (by kernel_rfl) (by kernel_rfl) ⟨Nat.le_of_ble_eq_true (by kernel_rfl), Nat.le_of_ble_eq_true (by kernel_rfl)⟩ (by kernel_rfl) (by kernel_rfl) (by kernel_rfl) ?_
  refine Pt.reg (by kernel_rfl) ?_
  refine AtO.seg 4 (by kernel_rfl) ?_
  refine AtO.done (p' := [1, 0, 0]) (F' := [(0, .agg [.lit (.int .i64 x0.Rows), .sl (x0.Classes.map (eSl (eI .i64)))]), (1, .agg [.lit (.int .i64 x1.Rows), .sl (x1.Classes.map (eSl (eI .i64)))]), (2, .box [.lit (.int .i64 x0.Rows), .sl (x0.Classes.map (eSl (eI .i64)))]), (3, .box [.lit (.int .i64 x1.Rows), .sl (x1.Classes.map (eSl (eI .i64)))]), (4, .box [.lit (.int .i64 0), .own []])]) (by kernel_rfl) (by kernel_rfl) (by kernel_rfl) ?_
  refine Pt.reg (by kernel_rfl) ?_
  obtain ⟨r1, h2, h⟩ := h
  refine AtO.seg 1 (by kernel_rfl) ?_
  refine AtO.call0 (x := (.func 16)) (g := 16) (caps := []) (agl := [.opn (.tmp 11)]) (ds := [.agg [.lit (.int .i64 x0.Rows), .sl (x0.Classes.map (eSl (eI .i64)))]]) (r := .lit (.bool r1)) (r' := .lit (.bool r1)) (ms := [none]) (by kernel_rfl) (by kernel_rfl) (by kernel_rfl) (by kernel_rfl) (by kernel_rfl) (by kernel_rfl) (pass_snap (a := .opn (.tmp 11)) (d0 := .agg [.lit (.int .i64 x0.Rows), .sl (x0.Classes.map (eSl (eI .i64)))]) (d := .agg [.lit (.int .i64 x0.Rows), .sl (x0.Classes.map (eSl (eI .i64)))]) (by kernel_rfl) (by kernel_rfl) (by kernel_rfl) pass_nil) h2 rfl (by kernel_rfl) ?_
  refine AtO.putb (fun hc => ?_) (fun hc => ?_)
  · have h := ite_t h (id hc)
    obtain ⟨r3, h4, h⟩ := h
    refine AtO.seg 3 (by kernel_rfl) ?_
    refine AtO.call0 (x := (.func 16)) (g := 16) (caps := []) (agl := [.opn (.tmp 15)]) (ds := [.agg [.lit (.int .i64 x1.Rows), .sl (x1.Classes.map (eSl (eI .i64)))]]) (r := .lit (.bool r3)) (r' := .lit (.bool r3)) (ms := [none]) (by kernel_rfl) (by kernel_rfl) (by kernel_rfl) (by kernel_rfl) (by kernel_rfl) (by kernel_rfl) (pass_snap (a := .opn (.tmp 15)) (d0 := .agg [.lit (.int .i64 x1.Rows), .sl (x1.Classes.map (eSl (eI .i64)))]) (d := .agg [.lit (.int .i64 x1.Rows), .sl (x1.Classes.map (eSl (eI .i64)))]) (by kernel_rfl) (by kernel_rfl) (by kernel_rfl) pass_nil) h4 rfl (by kernel_rfl) ?_
    refine AtO.putb (fun hc => ?_) (fun hc => ?_)
    · have h := ite_t h (id hc)
      refine AtO.seg 2 (by kernel_rfl) ?_
      refine AtO.done (p' := [1, 0, 1]) (F' := [(0, .agg [.lit (.int .i64 x0.Rows), .sl (x0.Classes.map (eSl (eI .i64)))]), (1, .agg [.lit (.int .i64 x1.Rows), .sl (x1.Classes.map (eSl (eI .i64)))]), (2, .box [.lit (.int .i64 x0.Rows), .sl (x0.Classes.map (eSl (eI .i64)))]), (3, .box [.lit (.int .i64 x1.Rows), .sl (x1.Classes.map (eSl (eI .i64)))]), (4, .box [.lit (.int .i64 0), .own []]), (18, .lit (.bool false))]) (by kernel_rfl) (by kernel_rfl) (by kernel_rfl) ?_
      refine Pt.cond_f (p' := [1, 0, 1, 1]) (F' := [(0, .agg [.lit (.int .i64 x0.Rows), .sl (x0.Classes.map (eSl (eI .i64)))]), (1, .agg [.lit (.int .i64 x1.Rows), .sl (x1.Classes.map (eSl (eI .i64)))]), (2, .box [.lit (.int .i64 x0.Rows), .sl (x0.Classes.map (eSl (eI .i64)))]), (3, .box [.lit (.int .i64 x1.Rows), .sl (x1.Classes.map (eSl (eI .i64)))]), (4, .box [.lit (.int .i64 0), .own []])]) (y := (.tmp 18)) (by kernel_rfl) (by kernel_rfl) (by kernel_rfl) (by kernel_rfl) ?_
      refine Pt.skip (p' := [1, 1, 0, 0]) (by kernel_rfl) (by kernel_rfl) ?_
      refine Pt.reg (by kernel_rfl) ?_
      refine AtO.seg 4 (by kernel_rfl) ?_
      refine AtO.bool (b := (x0.Rows != x1.Rows)) (by kernel_rfl) (by kernel_rfl) (fun hc => ?_) (fun hc => ?_)
      · have h := ite_f h (bne_t hc)
        refine AtO.done (p' := [1, 1, 0, 1]) (F' := [(0, .agg [.lit (.int .i64 x0.Rows), .sl (x0.Classes.map (eSl (eI .i64)))]), (1, .agg [.lit (.int .i64 x1.Rows), .sl (x1.Classes.map (eSl (eI .i64)))]), (2, .box [.lit (.int .i64 x0.Rows), .sl (x0.Classes.map (eSl (eI .i64)))]), (3, .box [.lit (.int .i64 x1.Rows), .sl (x1.Classes.map (eSl (eI .i64)))]), (4, .box [.lit (.int .i64 0), .own []]), (24, .lit (.bool true))]) (by kernel_rfl) (by kernel_rfl) (by kernel_rfl) ?_
        refine Pt.cond_t (p' := [1, 1, 0, 1, 0, 0]) (F' := [(4, .box [.lit (.int .i64 0), .own []])]) (y := (.tmp 24)) (by kernel_rfl) (by kernel_rfl) (by kernel_rfl) (by kernel_rfl) ?_
        refine Pt.reg (by kernel_rfl) ?_
        refine AtO.seg 3 (by kernel_rfl) ?_
        refine AtO.done (p' := [1, 1, 0, 1, 0, 1]) (F' := [(4, .box [.lit (.int .i64 0), .own []]), (5, .lit (.int .i64 6))]) (by kernel_rfl) (by kernel_rfl) (by kernel_rfl) ?_
        exact Pt.ret (((⟨0, []⟩ : api_Partition), 6)) (by kernel_rfl) (by kernel_rfl) h
      · have h := ite_t h (bne_f hc)
        refine AtO.done (p' := [1, 1, 0, 1]) (F' := [(0, .agg [.lit (.int .i64 x0.Rows), .sl (x0.Classes.map (eSl (eI .i64)))]), (1, .agg [.lit (.int .i64 x1.Rows), .sl (x1.Classes.map (eSl (eI .i64)))]), (2, .box [.lit (.int .i64 x0.Rows), .sl (x0.Classes.map (eSl (eI .i64)))]), (3, .box [.lit (.int .i64 x1.Rows), .sl (x1.Classes.map (eSl (eI .i64)))]), (4, .box [.lit (.int .i64 0), .own []]), (24, .lit (.bool false))]) (by kernel_rfl) (by kernel_rfl) (by kernel_rfl) ?_
        refine Pt.cond_f (p' := [1, 1, 0, 1, 1]) (F' := [(0, .agg [.lit (.int .i64 x0.Rows), .sl (x0.Classes.map (eSl (eI .i64)))]), (1, .agg [.lit (.int .i64 x1.Rows), .sl (x1.Classes.map (eSl (eI .i64)))]), (2, .box [.lit (.int .i64 x0.Rows), .sl (x0.Classes.map (eSl (eI .i64)))]), (3, .box [.lit (.int .i64 x1.Rows), .sl (x1.Classes.map (eSl (eI .i64)))]), (4, .box [.lit (.int .i64 0), .own []])]) (y := (.tmp 24)) (by kernel_rfl) (by kernel_rfl) (by kernel_rfl) (by kernel_rfl) ?_
        refine Pt.skip (p' := [1, 1, 1, 0]) (by kernel_rfl) (by kernel_rfl) ?_
        refine Pt.reg (by kernel_rfl) ?_
        obtain ⟨r5, h6, h⟩ := h
        refine AtO.seg 1 (by kernel_rfl) ?_
        refine AtO.callD (x := (.func 39)) (g := 39) (caps := []) (agl := [.opn (.tmp 26)]) (ds := [.agg [.lit (.int .i64 x0.Rows), .sl (x0.Classes.map (eSl (eI .i64)))]]) (r := .own (r5.map (eI .i64))) (r' := .own (r5.map (eI .i64))) (by kernel_rfl) (by kernel_rfl) (by kernel_rfl) (by kernel_rfl) (by kernel_rfl) (pass_snap (a := .opn (.tmp 26)) (d0 := .agg [.lit (.int .i64 x0.Rows), .sl (x0.Classes.map (eSl (eI .i64)))]) (d := .agg [.lit (.int .i64 x0.Rows), .sl (x0.Classes.map (eSl (eI .i64)))]) (by kernel_rfl) (by kernel_rfl) (by kernel_rfl) pass_nil) h6 (by rw [(flat_ow (e := (eI .i64)) (fun _ => rfl))]; rfl) (by kernel_rfl) ?_
        obtain ⟨r7, h8, h⟩ := h
        refine AtO.seg 1 (by kernel_rfl) ?_
        refine AtO.call0 (x := (.func 39)) (g := 39) (caps := []) (agl := [.opn (.tmp 28)]) (ds := [.agg [.lit (.int .i64 x1.Rows), .sl (x1.Classes.map (eSl (eI .i64)))]]) (r := .own (r7.map (eI .i64))) (r' := .own (r7.map (eI .i64))) (ms := [none]) (by kernel_rfl) (by kernel_rfl) (by kernel_rfl) (by kernel_rfl) (by kernel_rfl) (by kernel_rfl) (pass_snap (a := .opn (.tmp 28)) (d0 := .agg [.lit (.int .i64 x1.Rows), .sl (x1.Classes.map (eSl (eI .i64)))]) (d := .agg [.lit (.int .i64 x1.Rows), .sl (x1.Classes.map (eSl (eI .i64)))]) (by kernel_rfl) (by kernel_rfl) (by kernel_rfl) pass_nil) h8 (flat_ow (e := (eI .i64)) (fun _ => rfl)) (by kernel_rfl) ?_
        refine AtO.seg 2 (by kernel_rfl) ?_
        refine AtO.done (p' := [1, 1, 1, 1, 0]) (F' := [(0, .agg [.lit (.int .i64 x0.Rows), .sl (x0.Classes.map (eSl (eI .i64)))]), (2, .box [.lit (.int .i64 x0.Rows), .sl (x0.Classes.map (eSl (eI .i64)))]), (4, .box [.lit (.int .i64 0), .own []]), (6, .own (r5.map (eI .i64))), (7, .own (r7.map (eI .i64)))]) (by kernel_rfl) (by kernel_rfl) (by kernel_rfl) ?_
        refine Pt.reg (by kernel_rfl) ?_
        obtain ⟨h9, h⟩ := h
        refine AtO.seg 2 (by kernel_rfl) ?_
        refine AtO.val (by kernel_rfl) (val_make (t := 38) (x := (.tmp 31)) (y := (.tmp 31)) (q := .i64) (i := x0.Rows) (et := 3) (z := .lit (.int .i64 0)) (e := (eI .i64)) (a := (0 : Int)) (k := 8) (by kernel_rfl) (by kernel_rfl) (by kernel_rfl) (by kernel_rfl) (by kernel_rfl) (by kernel_rfl) (by kernel_rfl) (by kernel_rfl) (by kernel_rfl) (by kernel_rfl) h9.1 h9.2) ?_
        refine AtO.seg 1 (by kernel_rfl) ?_
        refine AtO.done (p' := [1, 1, 1, 1, 1, 0, 0]) (F' := [(0, .agg [.lit (.int .i64 x0.Rows), .sl (x0.Classes.map (eSl (eI .i64)))]), (2, .box [.lit (.int .i64 x0.Rows), .sl (x0.Classes.map (eSl (eI .i64)))]), (4, .box [.lit (.int .i64 0), .own []]), (6, .own (r5.map (eI .i64))), (7, .own (r7.map (eI .i64))), (8, .own (((List.replicate x0.Rows.toNat (0 : Int))).map (eI .i64)))]) (by kernel_rfl) (by kernel_rfl) (by kernel_rfl) ?_
        refine Pt.reg (by kernel_rfl) ?_
        refine AtO.seg 1 (by kernel_rfl) ?_
        refine AtO.done (p' := [1, 1, 1, 1, 1, 0, 1, 0]) (F' := [(0, .agg [.lit (.int .i64 x0.Rows), .sl (x0.Classes.map (eSl (eI .i64)))]), (2, .box [.lit (.int .i64 x0.Rows), .sl (x0.Classes.map (eSl (eI .i64)))]), (4, .box [.lit (.int .i64 0), .own []]), (6, .own (r5.map (eI .i64))), (7, .own (r7.map (eI .i64))), (8, .own (((List.replicate x0.Rows.toNat (0 : Int))).map (eI .i64))), (9, .lit (.int .i64 0))]) (by kernel_rfl) (by kernel_rfl) (by kernel_rfl) ?_
        exact h
    · have h := ite_f h (fls hc)
      refine AtO.seg 2 (by kernel_rfl) ?_
      refine AtO.done (p' := [1, 0, 1]) (F' := [(0, .agg [.lit (.int .i64 x0.Rows), .sl (x0.Classes.map (eSl (eI .i64)))]), (1, .agg [.lit (.int .i64 x1.Rows), .sl (x1.Classes.map (eSl (eI .i64)))]), (2, .box [.lit (.int .i64 x0.Rows), .sl (x0.Classes.map (eSl (eI .i64)))]), (3, .box [.lit (.int .i64 x1.Rows), .sl (x1.Classes.map (eSl (eI .i64)))]), (4, .box [.lit (.int .i64 0), .own []]), (18, .lit (.bool true))]) (by kernel_rfl) (by kernel_rfl) (by kernel_rfl) ?_
      refine Pt.cond_t (p' := [1, 0, 1, 0, 0]) (F' := [(4, .box [.lit (.int .i64 0), .own []])]) (y := (.tmp 18)) (by kernel_rfl) (by kernel_rfl) (by kernel_rfl) (by kernel_rfl) ?_
      refine Pt.reg (by kernel_rfl) ?_
      refine AtO.seg 3 (by kernel_rfl) ?_
      refine AtO.done (p' := [1, 0, 1, 0, 1]) (F' := [(4, .box [.lit (.int .i64 0), .own []]), (5, .lit (.int .i64 1))]) (by kernel_rfl) (by kernel_rfl) (by kernel_rfl) ?_
      exact Pt.ret (((⟨0, []⟩ : api_Partition), 1)) (by kernel_rfl) (by kernel_rfl) h
  · have h := ite_f h (fls hc)
    refine AtO.seg 6 (by kernel_rfl) ?_
    refine AtO.done (p' := [1, 0, 1]) (F' := [(0, .agg [.lit (.int .i64 x0.Rows), .sl (x0.Classes.map (eSl (eI .i64)))]), (1, .agg [.lit (.int .i64 x1.Rows), .sl (x1.Classes.map (eSl (eI .i64)))]), (2, .box [.lit (.int .i64 x0.Rows), .sl (x0.Classes.map (eSl (eI .i64)))]), (3, .box [.lit (.int .i64 x1.Rows), .sl (x1.Classes.map (eSl (eI .i64)))]), (4, .box [.lit (.int .i64 0), .own []]), (18, .lit (.bool true))]) (by kernel_rfl) (by kernel_rfl) (by kernel_rfl) ?_
    refine Pt.cond_t (p' := [1, 0, 1, 0, 0]) (F' := [(4, .box [.lit (.int .i64 0), .own []])]) (y := (.tmp 18)) (by kernel_rfl) (by kernel_rfl) (by kernel_rfl) (by kernel_rfl) ?_
    refine Pt.reg (by kernel_rfl) ?_
    refine AtO.seg 3 (by kernel_rfl) ?_
    refine AtO.done (p' := [1, 0, 1, 0, 1]) (F' := [(4, .box [.lit (.int .i64 0), .own []]), (5, .lit (.int .i64 1))]) (by kernel_rfl) (by kernel_rfl) (by kernel_rfl) ?_
    exact Pt.ret (((⟨0, []⟩ : api_Partition), 1)) (by kernel_rfl) (by kernel_rfl) h
end drossref08_Product
end Go.Own

namespace Go.Own
open Go.Proofs D
set_option maxRecDepth 100000
set_option maxHeartbeats 4000000
namespace partition_Refines_1_1
noncomputable def B : Code := (Tryd.f47.body).getD .skip
def W : List Nat := [0, 1, 2, 4]
def res (r : Bool) : D × List D := (.lit (.bool r), [])
def C (x0 : Int) (k1_0 : List Int) (k2_0 : List Int) (r : Bool) : Prop := Ret env 47 [.lit (.int .i64 x0), .ref [.sl (k1_0.map (eI .i64))], .ref [.sl (k2_0.map (eI .i64))]] (res r).1 (res r).2
theorem enter (x0 : Int) (k1_0 : List Int) (k2_0 : List Int) (φ : Bool → Prop) (h :
    ∃ a1, lget k1_0 x0 = some a1 ∧
    ∃ a3, lget k2_0 0 = some a3 ∧
    ∃ a5, lget k1_0 a3 = some a5 ∧
    φ ((a1 != a5))) : ∃ r, φ r ∧ C x0 k1_0 k2_0 r := by
  refine Ret.of_at (E := env) (f := 47) (fd := Tryd.f47) (body := B) (p := [0]) (V := W) (F := [(0, .lit (.int .i64 x0)), (1, .ref [.sl (k1_0.map (eI .i64))]), (2, .ref [.sl (k2_0.map (eI .i64))]), (4, .undef)]) (res := res) (φ := φ) (ds := [.lit (.int .i64 x0), .ref [.sl (k1_0.map (eI .i64))], .ref [.sl (k2_0.map (eI .i64))]]) (by kernel_rfl) (by kernel_rfl) (by kernel_rfl) ⟨Nat.le_of_ble_eq_true (by kernel_rfl), Nat.le_of_ble_eq_true (by kernel_rfl)⟩ (by kernel_rfl) (by kernel_rfl) (by kernel_rfl) ?_
  refine Pt.reg (by kernel_rfl) ?_
  refine AtO.seg 1 (by kernel_rfl) ?_
  refine AtO.done (p' := [1, 0]) (F' := [(0, .lit (.int .i64 x0)), (1, .ref [.sl (k1_0.map (eI .i64))]), (2, .ref [.sl (k2_0.map (eI .i64))])]) (by kernel_rfl) (by kernel_rfl) (by kernel_rfl) ?_
  refine Pt.reg (by kernel_rfl) ?_
  obtain ⟨a1, h2, h⟩ := h
  refine AtO.seg 2 (by kernel_rfl) ?_
  refine AtO.val (by kernel_rfl) (val_idx_sl (t := 38) (x := (.tmp 5)) (ix := (.tmp 6)) (et := 3) (k := 1) (e := (eI .i64)) (l := k1_0) (i := x0) (q := .i64) (a := a1) (by kernel_rfl) (by kernel_rfl) (by kernel_rfl) (by kernel_rfl) (by kernel_rfl) h2 (by kernel_rfl)) ?_
  obtain ⟨a3, h4, h⟩ := h
  refine AtO.seg 3 (by kernel_rfl) ?_
  refine AtO.val (by kernel_rfl) (val_idx_sl (t := 38) (x := (.tmp 10)) (ix := (.const (.int .i64 0))) (et := 3) (k := 1) (e := (eI .i64)) (l := k2_0) (i := 0) (q := .i64) (a := a3) (by kernel_rfl) (by kernel_rfl) (by kernel_rfl) (by kernel_rfl) (by kernel_rfl) h4 (by kernel_rfl)) ?_
  obtain ⟨a5, h6, h⟩ := h
  refine AtO.seg 1 (by kernel_rfl) ?_
  refine AtO.val (by kernel_rfl) (val_idx_sl (t := 38) (x := (.tmp 9)) (ix := (.tmp 12)) (et := 3) (k := 1) (e := (eI .i64)) (l := k1_0) (i := a3) (q := .i64) (a := a5) (by kernel_rfl) (by kernel_rfl) (by kernel_rfl) (by kernel_rfl) (by kernel_rfl) h6 (by kernel_rfl)) ?_
  refine AtO.seg 3 (by kernel_rfl) ?_
  refine AtO.done (p' := [1, 1]) (F' := [(4, .lit (.bool ((a1 != a5))))]) (by kernel_rfl) (by kernel_rfl) (by kernel_rfl) ?_
  exact Pt.ret ((a1 != a5)) (by kernel_rfl) (by kernel_rfl) h
end partition_Refines_1_1
end Go.Own

namespace Go.Own
open Go.Proofs D
set_option maxRecDepth 100000
set_option maxHeartbeats 4000000
namespace slices_IndexFunc_sint_int
noncomputable def B : Code := (Tryd.f67.body).getD .skip
def W : List Nat := [0, 1, 4, 5, 7, 8, 9, 16]
def res (r : Int) : D × List D := (.lit (.int .i64 r), [])
def C (x0 : List Int) (k1_0 : List Int) (k1_1 : List Int) (r : Int) : Prop := Ret env 67 [.sl (x0.map (eI .i64)), .fn 47 [.ref [.sl (k1_0.map (eI .i64))], .ref [.sl (k1_1.map (eI .i64))]]] (res r).1 (res r).2
def L1 (x0 : List Int) (k1_0 : List Int) (k1_1 : List Int) (y8_L1 : Int) (φ : Int → Prop) : Prop := Pt env 67 W B [1, 0, 1, 0] [(0, .sl (x0.map (eI .i64))), (1, .fn 47 [.ref [.sl (k1_0.map (eI .i64))], .ref [.sl (k1_1.map (eI .i64))]]), (7, .lit (.int .i64 ((x0.length : Int)))), (8, .lit (.int .i64 y8_L1))] (Lv env 67 Tryd.f67 2 res φ)
theorem L1_step (x0 : List Int) (k1_0 : List Int) (k1_1 : List Int) (y8_L1 : Int) (φ : Int → Prop) (h :
    (if y8_L1 < (x0.length : Int) then
      ∃ a1, lget x0 y8_L1 = some a1 ∧
      ∃ r3 : Bool, partition_Refines_1_1.C a1 k1_0 k1_1 r3 ∧
      (if r3 = true then
        φ y8_L1
      else
        slices_IndexFunc_sint_int.L1 x0 k1_0 k1_1 ((IntKind.wrap .i64 (y8_L1 + 1))) φ)
    else
      φ ((-1)))) : L1 x0 k1_0 k1_1 y8_L1 φ := by
  unfold L1
  refine Pt.loop (p' := [1, 0, 1, 0, 0, 0]) (by kernel_rfl) (by kernel_rfl) ?_
  refine Pt.reg (by kernel_rfl) ?_
  refine AtO.bool (b := (decide (y8_L1 < (x0.length : Int)))) (by kernel_rfl) (by kernel_rfl) (fun hc => ?_) (fun hc => ?_)
  · have h := ite_t h (of_decide_eq_true hc)
    refine AtO.done (p' := [1, 0, 1, 0, 0, 1, 0]) (F' := [(0, .sl (x0.map (eI .i64))), (1, .fn 47 [.ref [.sl (k1_0.map (eI .i64))], .ref [.sl (k1_1.map (eI .i64))]]), (7, .lit (.int .i64 ((x0.length : Int)))), (8, .lit (.int .i64 y8_L1)), (9, .lit (.bool true))]) (by kernel_rfl) (by kernel_rfl) (by kernel_rfl) ?_
    refine Pt.cond_t (p' := [1, 0, 1, 0, 0, 1, 0, 0]) (F' := [(0, .sl (x0.map (eI .i64))), (1, .fn 47 [.ref [.sl (k1_0.map (eI .i64))], .ref [.sl (k1_1.map (eI .i64))]]), (7, .lit (.int .i64 ((x0.length : Int)))), (8, .lit (.int .i64 y8_L1))]) (y := (.tmp 9)) (by kernel_rfl) (by kernel_rfl) (by kernel_rfl) (by kernel_rfl) ?_
    refine Pt.skip (p' := [1, 0, 1, 0, 0, 1, 1, 0, 0, 0]) (by kernel_rfl) (by kernel_rfl) ?_
    refine Pt.reg (by kernel_rfl) ?_
    refine AtO.seg 2 (by kernel_rfl) ?_
    refine AtO.done (p' := [1, 0, 1, 0, 0, 1, 1, 0, 0, 1, 0]) (F' := [(0, .sl (x0.map (eI .i64))), (1, .fn 47 [.ref [.sl (k1_0.map (eI .i64))], .ref [.sl (k1_1.map (eI .i64))]]), (5, .lit (.int .i64 y8_L1)), (7, .lit (.int .i64 ((x0.length : Int)))), (8, .lit (.int .i64 y8_L1))]) (by kernel_rfl) (by kernel_rfl) (by kernel_rfl) ?_
    refine Pt.reg (by kernel_rfl) ?_
    obtain ⟨a1, h2, h⟩ := h
    refine AtO.seg 3 (by kernel_rfl) ?_
    refine AtO.val (by kernel_rfl) (val_idx_sl (t := 38) (x := (.tmp 12)) (ix := (.tmp 13)) (et := 3) (k := 1) (e := (eI .i64)) (l := x0) (i := y8_L1) (q := .i64) (a := a1) (by kernel_rfl) (by kernel_rfl) (by kernel_rfl) (by kernel_rfl) (by kernel_rfl) h2 (by kernel_rfl)) ?_
    obtain ⟨r3, h4, h⟩ := h
    refine AtO.seg 1 (by kernel_rfl) ?_
    refine AtO.call0 (x := (.tmp 11)) (g := 47) (caps := [.ref [.sl (k1_0.map (eI .i64))], .ref [.sl (k1_1.map (eI .i64))]]) (agl := [.opn (.tmp 15), .cap 0, .cap 1]) (ds := [.lit (.int .i64 a1), .ref [.sl (k1_0.map (eI .i64))], .ref [.sl (k1_1.map (eI .i64))]]) (r := .lit (.bool r3)) (r' := .lit (.bool r3)) (ms := [none, none, none]) (by kernel_rfl) (by kernel_rfl) (by kernel_rfl) (by kernel_rfl) (by kernel_rfl) (by kernel_rfl) (pass_snap (a := .opn (.tmp 15)) (d0 := .lit (.int .i64 a1)) (d := .lit (.int .i64 a1)) (by kernel_rfl) (by kernel_rfl) (by kernel_rfl) (pass_snap (a := .cap 0) (d0 := .ref [.sl (k1_0.map (eI .i64))]) (d := .ref [.sl (k1_0.map (eI .i64))]) (by kernel_rfl) (by kernel_rfl) (by kernel_rfl) (pass_snap (a := .cap 1) (d0 := .ref [.sl (k1_1.map (eI .i64))]) (d := .ref [.sl (k1_1.map (eI .i64))]) (by kernel_rfl) (by kernel_rfl) (by kernel_rfl) pass_nil))) h4 rfl (by kernel_rfl) ?_
    refine AtO.putb (fun hc => ?_) (fun hc => ?_)
    · have h := ite_t h (id hc)
      refine AtO.done (p' := [1, 0, 1, 0, 0, 1, 1, 0, 0, 1, 1]) (F' := [(0, .sl (x0.map (eI .i64))), (1, .fn 47 [.ref [.sl (k1_0.map (eI .i64))], .ref [.sl (k1_1.map (eI .i64))]]), (5, .lit (.int .i64 y8_L1)), (7, .lit (.int .i64 ((x0.length : Int)))), (8, .lit (.int .i64 y8_L1)), (16, .lit (.bool true))]) (by kernel_rfl) (by kernel_rfl) (by kernel_rfl) ?_
      refine Pt.cond_t (p' := [1, 0, 1, 0, 0, 1, 1, 0, 0, 1, 1, 0, 0]) (F' := [(5, .lit (.int .i64 y8_L1))]) (y := (.tmp 16)) (by kernel_rfl) (by kernel_rfl) (by kernel_rfl) (by kernel_rfl) ?_
      refine Pt.reg (by kernel_rfl) ?_
      refine AtO.seg 2 (by kernel_rfl) ?_
      refine AtO.done (p' := [1, 0, 1, 0, 0, 1, 1, 0, 0, 1, 1, 0, 1]) (F' := [(4, .lit (.int .i64 y8_L1))]) (by kernel_rfl) (by kernel_rfl) (by kernel_rfl) ?_
      exact Pt.ret y8_L1 (by kernel_rfl) (by kernel_rfl) h
    · have h := ite_f h (fls hc)
      refine AtO.done (p' := [1, 0, 1, 0, 0, 1, 1, 0, 0, 1, 1]) (F' := [(0, .sl (x0.map (eI .i64))), (1, .fn 47 [.ref [.sl (k1_0.map (eI .i64))], .ref [.sl (k1_1.map (eI .i64))]]), (5, .lit (.int .i64 y8_L1)), (7, .lit (.int .i64 ((x0.length : Int)))), (8, .lit (.int .i64 y8_L1)), (16, .lit (.bool false))]) (by kernel_rfl) (by kernel_rfl) (by kernel_rfl) ?_
      refine Pt.cond_f (p' := [1, 0, 1, 0, 0, 1, 1, 0, 0, 1, 1, 1]) (F' := [(0, .sl (x0.map (eI .i64))), (1, .fn 47 [.ref [.sl (k1_0.map (eI .i64))], .ref [.sl (k1_1.map (eI .i64))]]), (7, .lit (.int .i64 ((x0.length : Int)))), (8, .lit (.int .i64 y8_L1))]) (y := (.tmp 16)) (by kernel_rfl) (by kernel_rfl) (by kernel_rfl) (by kernel_rfl) ?_
      refine Pt.skip (p' := [1, 0, 1, 0, 0, 1, 1, 1]) (by kernel_rfl) (by kernel_rfl) ?_
      refine Pt.reg (by kernel_rfl) ?_
      refine AtO.seg 2 (by kernel_rfl) ?_
      refine AtO.done (p' := [1, 0, 1, 0]) (F' := [(0, .sl (x0.map (eI .i64))), (1, .fn 47 [.ref [.sl (k1_0.map (eI .i64))], .ref [.sl (k1_1.map (eI .i64))]]), (7, .lit (.int .i64 ((x0.length : Int)))), (8, .lit (.int .i64 ((IntKind.wrap .i64 (y8_L1 + 1)))))]) (by kernel_rfl) (by kernel_rfl) (by kernel_rfl) ?_
      exact h
  · have h := ite_f h (of_decide_eq_false hc)
    refine AtO.done (p' := [1, 0, 1, 0, 0, 1, 0]) (F' := [(0, .sl (x0.map (eI .i64))), (1, .fn 47 [.ref [.sl (k1_0.map (eI .i64))], .ref [.sl (k1_1.map (eI .i64))]]), (7, .lit (.int .i64 ((x0.length : Int)))), (8, .lit (.int .i64 y8_L1)), (9, .lit (.bool false))]) (by kernel_rfl) (by kernel_rfl) (by kernel_rfl) ?_
    refine Pt.cond_f (p' := [1, 0, 1, 0, 0, 1, 0, 1]) (F' := []) (y := (.tmp 9)) (by kernel_rfl) (by kernel_rfl) (by kernel_rfl) (by kernel_rfl) ?_
    refine Pt.exit (p' := [1, 1, 0]) (F' := []) (by kernel_rfl) (by kernel_rfl) (by kernel_rfl) ?_
    refine Pt.reg (by kernel_rfl) ?_
    refine AtO.seg 1 (by kernel_rfl) ?_
    refine AtO.done (p' := [1, 1, 1]) (F' := [(4, .lit (.int .i64 ((-1))))]) (by kernel_rfl) (by kernel_rfl) (by kernel_rfl) ?_
    exact Pt.ret ((-1)) (by kernel_rfl) (by kernel_rfl) h
theorem enter (x0 : List Int) (k1_0 : List Int) (k1_1 : List Int) (φ : Int → Prop) (h :
    slices_IndexFunc_sint_int.L1 x0 k1_0 k1_1 0 φ) : ∃ r, φ r ∧ C x0 k1_0 k1_1 r := by
  refine Ret.of_at (E := env) (f := 67) (fd := Tryd.f67) (body := B) (p := [0]) (V := W) (F := [(0, .sl (x0.map (eI .i64))), (1, .fn 47 [.ref [.sl (k1_0.map (eI .i64))], .ref [.sl (k1_1.map (eI .i64))]]), (4, .undef), (5, .undef), (7, .undef), (8, .undef), (9, .undef), (16, .undef)]) (res := res) (φ := φ) (ds := [.sl (x0.map (eI .i64)), .fn 47 [.ref [.sl (k1_0.map (eI .i64))], .ref [.sl (k1_1.map (eI .i64))]]]) (by kernel_rfl) (by kernel_rfl) (by kernel_rfl) ⟨Nat.le_of_ble_eq_true (by kernel_rfl), Nat.le_of_ble_eq_true (by kernel_rfl)⟩ (by kernel_rfl) (by kernel_rfl) (by kernel_rfl) ?_
  refine Pt.reg (by kernel_rfl) ?_
  refine AtO.seg 1 (by kernel_rfl) ?_
  refine AtO.done (p' := [1, 0, 0]) (F' := [(0, .sl (x0.map (eI .i64))), (1, .fn 47 [.ref [.sl (k1_0.map (eI .i64))], .ref [.sl (k1_1.map (eI .i64))]])]) (by kernel_rfl) (by kernel_rfl) (by kernel_rfl) ?_
  refine Pt.reg (by kernel_rfl) ?_
  refine AtO.seg 1 (by kernel_rfl) ?_
  refine AtO.val (by kernel_rfl) (val_len (x := (.tmp 6)) (t := 38) (et := 3) (d := .sl (x0.map (eI .i64))) (e := (eI .i64)) (l := x0) (by kernel_rfl) (by kernel_rfl) elemsOf_sl (by kernel_rfl)) ?_
  refine AtO.seg 1 (by kernel_rfl) ?_
  refine AtO.done (p' := [1, 0, 1, 0]) (F' := [(0, .sl (x0.map (eI .i64))), (1, .fn 47 [.ref [.sl (k1_0.map (eI .i64))], .ref [.sl (k1_1.map (eI .i64))]]), (7, .lit (.int .i64 ((x0.length : Int)))), (8, .lit (.int .i64 0))]) (by kernel_rfl) (by kernel_rfl) (by kernel_rfl) ?_
  exact h
end slices_IndexFunc_sint_int
end Go.Own

namespace Go.Own
open Go.Proofs D
set_option maxRecDepth 100000
set_option maxHeartbeats 4000000
namespace slices_ContainsFunc_sint_int
noncomputable def B : Code := (Tryd.f46.body).getD .skip
def W : List Nat := [0, 1, 4]
def res (r : Bool) : D × List D := (.lit (.bool r), [])
def C (x0 : List Int) (k1_0 : List Int) (k1_1 : List Int) (r : Bool) : Prop := Ret env 46 [.sl (x0.map (eI .i64)), .fn 47 [.ref [.sl (k1_0.map (eI .i64))], .ref [.sl (k1_1.map (eI .i64))]]] (res r).1 (res r).2
theorem enter (x0 : List Int) (k1_0 : List Int) (k1_1 : List Int) (φ : Bool → Prop) (h :
    ∃ r1 : Int, slices_IndexFunc_sint_int.C x0 k1_0 k1_1 r1 ∧
    φ ((decide (0 ≤ r1)))) : ∃ r, φ r ∧ C x0 k1_0 k1_1 r := by
  refine Ret.of_at (E := env) (f := 46) (fd := Tryd.f46) (body := B) (p := [0]) (V := W) (F := [(0, .sl (x0.map (eI .i64))), (1, .fn 47 [.ref [.sl (k1_0.map (eI .i64))], .ref [.sl (k1_1.map (eI .i64))]]), (4, .undef)]) (res := res) (φ := φ) (ds := [.sl (x0.map (eI .i64)), .fn 47 [.ref [.sl (k1_0.map (eI .i64))], .ref [.sl (k1_1.map (eI .i64))]]]) (by kernel_rfl) (by kernel_rfl) (by kernel_rfl) ⟨Nat.le_of_ble_eq_true (by kernel_rfl), Nat.le_of_ble_eq_true (by kernel_rfl)⟩ (by kernel_rfl) (by kernel_rfl) (by kernel_rfl) ?_
  refine Pt.reg (by kernel_rfl) ?_
  refine AtO.seg 1 (by kernel_rfl) ?_
  refine AtO.done (p' := [1, 0]) (F' := [(0, .sl (x0.map (eI .i64))), (1, .fn 47 [.ref [.sl (k1_0.map (eI .i64))], .ref [.sl (k1_1.map (eI .i64))]])]) (by kernel_rfl) (by kernel_rfl) (by kernel_rfl) ?_
  refine Pt.reg (by kernel_rfl) ?_
  obtain ⟨r1, h2, h⟩ := h
  refine AtO.seg 2 (by kernel_rfl) ?_
  refine AtO.call0 (x := (.func 67)) (g := 67) (caps := []) (agl := [.opn (.tmp 5), .opn (.tmp 6)]) (ds := [.sl (x0.map (eI .i64)), .fn 47 [.ref [.sl (k1_0.map (eI .i64))], .ref [.sl (k1_1.map (eI .i64))]]]) (r := .lit (.int .i64 r1)) (r' := .lit (.int .i64 r1)) (ms := [none, none]) (by kernel_rfl) (by kernel_rfl) (by kernel_rfl) (by kernel_rfl) (by kernel_rfl) (by kernel_rfl) (pass_snap (a := .opn (.tmp 5)) (d0 := .sl (x0.map (eI .i64))) (d := .sl (x0.map (eI .i64))) (by kernel_rfl) (by kernel_rfl) (by kernel_rfl) (pass_snap (a := .opn (.tmp 6)) (d0 := .fn 47 [.ref [.sl (k1_0.map (eI .i64))], .ref [.sl (k1_1.map (eI .i64))]]) (d := .fn 47 [.ref [.sl (k1_0.map (eI .i64))], .ref [.sl (k1_1.map (eI .i64))]]) (by kernel_rfl) (by kernel_rfl) (by kernel_rfl) pass_nil)) h2 rfl (by kernel_rfl) ?_
  refine AtO.seg 2 (by kernel_rfl) ?_
  refine AtO.done (p' := [1, 1]) (F' := [(4, .lit (.bool ((decide (0 ≤ r1)))))]) (by kernel_rfl) (by kernel_rfl) (by kernel_rfl) ?_
  exact Pt.ret ((decide (0 ≤ r1))) (by kernel_rfl) (by kernel_rfl) h
end slices_ContainsFunc_sint_int
end Go.Own

namespace Go.Own
open Go.Proofs D
set_option maxRecDepth 100000
set_option maxHeartbeats 4000000
namespace partition_Refines_1
noncomputable def B : Code := (Tryd.f45.body).getD .skip
def W : List Nat := [0, 1, 2, 3]
def res (r : Bool) : D × List D := (.lit (.bool r), [])
def C (x0 : List Int) (k1_0 : List Int) (r : Bool) : Prop := Ret env 45 [.sl (x0.map (eI .i64)), .ref [.sl (k1_0.map (eI .i64))]] (res r).1 (res r).2
theorem enter (x0 : List Int) (k1_0 : List Int) (φ : Bool → Prop) (h :
    ∃ r1 : Bool, slices_ContainsFunc_sint_int.C x0 k1_0 x0 r1 ∧
    φ r1) : ∃ r, φ r ∧ C x0 k1_0 r := by
  refine Ret.of_at (E := env) (f := 45) (fd := Tryd.f45) (body := B) (p := [0]) (V := W) (F := [(0, .sl (x0.map (eI .i64))), (1, .ref [.sl (k1_0.map (eI .i64))]), (2, .undef), (3, .undef)]) (res := res) (φ := φ) (ds := [.sl (x0.map (eI .i64)), .ref [.sl (k1_0.map (eI .i64))]]) (by kernel_rfl) (by kernel_rfl) (by kernel_rfl) ⟨Nat.le_of_ble_eq_true (by kernel_rfl), Nat.le_of_ble_eq_true (by kernel_rfl)⟩ (by kernel_rfl) (by kernel_rfl) (by kernel_rfl) ?_
  refine Pt.reg (by kernel_rfl) ?_
  refine AtO.seg 2 (by kernel_rfl) ?_
  refine AtO.done (p' := [1, 0]) (F' := [(0, .sl (x0.map (eI .i64))), (1, .ref [.sl (k1_0.map (eI .i64))]), (2, .box [.sl (x0.map (eI .i64))])]) (by kernel_rfl) (by kernel_rfl) (by kernel_rfl) ?_
  refine Pt.reg (by kernel_rfl) ?_
  obtain ⟨r1, h2, h⟩ := h
  refine AtO.seg 2 (by kernel_rfl) ?_
  refine AtO.call0 (x := (.func 46)) (g := 46) (caps := []) (agl := [.opn (.tmp 4), .opn (.tmp 5)]) (ds := [.sl (x0.map (eI .i64)), .fn 47 [.ref [.sl (k1_0.map (eI .i64))], .ref [.sl (x0.map (eI .i64))]]]) (r := .lit (.bool r1)) (r' := .lit (.bool r1)) (ms := [none, none]) (by kernel_rfl) (by kernel_rfl) (by kernel_rfl) (by kernel_rfl) (by kernel_rfl) (by kernel_rfl) (pass_snap (a := .opn (.tmp 4)) (d0 := .sl (x0.map (eI .i64))) (d := .sl (x0.map (eI .i64))) (by kernel_rfl) (by kernel_rfl) (by kernel_rfl) (pass_snap (a := .opn (.tmp 5)) (d0 := .fn 47 [.ref [.sl (k1_0.map (eI .i64))], .alias 2 []]) (d := .fn 47 [.ref [.sl (k1_0.map (eI .i64))], .ref [.sl (x0.map (eI .i64))]]) (by kernel_rfl) (by kernel_rfl) (by kernel_rfl) pass_nil)) h2 rfl (by kernel_rfl) ?_
  refine AtO.seg 1 (by kernel_rfl) ?_
  refine AtO.done (p' := [1, 1]) (F' := [(3, .lit (.bool r1))]) (by kernel_rfl) (by kernel_rfl) (by kernel_rfl) ?_
  exact Pt.ret r1 (by kernel_rfl) (by kernel_rfl) h
end partition_Refines_1
end Go.Own

namespace Go.Own
open Go.Proofs D
set_option maxRecDepth 100000
set_option maxHeartbeats 4000000
namespace slices_IndexFunc_ssint_sint_v2
noncomputable def B : Code := (Tryd.f66.body).getD .skip
def W : List Nat := [0, 1, 4, 5, 7, 8, 9, 16]
def res (r : Int) : D × List D := (.lit (.int .i64 r), [])
def C (x0 : List (List Int)) (k1_0 : List Int) (r : Int) : Prop := Ret env 66 [.sl (x0.map (eSl (eI .i64))), .fn 45 [.ref [.sl (k1_0.map (eI .i64))]]] (res r).1 (res r).2
def L1 (x0 : List (List Int)) (k1_0 : List Int) (y8_L1 : Int) (φ : Int → Prop) : Prop := Pt env 66 W B [1, 0, 1, 0] [(0, .sl (x0.map (eSl (eI .i64)))), (1, .fn 45 [.ref [.sl (k1_0.map (eI .i64))]]), (7, .lit (.int .i64 ((x0.length : Int)))), (8, .lit (.int .i64 y8_L1))] (Lv env 66 Tryd.f66 2 res φ)
theorem L1_step (x0 : List (List Int)) (k1_0 : List Int) (y8_L1 : Int) (φ : Int → Prop) (h :
    (if y8_L1 < (x0.length : Int) then
      ∃ a1, lget x0 y8_L1 = some a1 ∧
      ∃ r3 : Bool, partition_Refines_1.C a1 k1_0 r3 ∧
      (if r3 = true then
        φ y8_L1
      else
        slices_IndexFunc_ssint_sint_v2.L1 x0 k1_0 ((IntKind.wrap .i64 (y8_L1 + 1))) φ)
    else
      φ ((-1)))) : L1 x0 k1_0 y8_L1 φ := by
  unfold L1
  refine Pt.loop (p' := [1, 0, 1, 0, 0, 0]) (by kernel_rfl) (by kernel_rfl) ?_
  refine Pt.reg (by kernel_rfl) ?_
  refine AtO.bool (b := (decide (y8_L1 < (x0.length : Int)))) (by kernel_rfl) (by kernel_rfl) (fun hc => ?_) (fun hc => ?_)
  · have h := ite_t h (of_decide_eq_true hc)
    refine AtO.done (p' := [1, 0, 1, 0, 0, 1, 0]) (F' := [(0, .sl (x0.map (eSl (eI .i64)))), (1, .fn 45 [.ref [.sl (k1_0.map (eI .i64))]]), (7, .lit (.int .i64 ((x0.length : Int)))), (8, .lit (.int .i64 y8_L1)), (9, .lit (.bool true))]) (by kernel_rfl) (by kernel_rfl) (by kernel_rfl) ?_
    refine Pt.cond_t (p' := [1, 0, 1, 0, 0, 1, 0, 0]) (F' := [(0, .sl (x0.map (eSl (eI .i64)))), (1, .fn 45 [.ref [.sl (k1_0.map (eI .i64))]]), (7, .lit (.int .i64 ((x0.length : Int)))), (8, .lit (.int .i64 y8_L1))]) (y := (.tmp 9)) (by kernel_rfl) (by kernel_rfl) (by kernel_rfl) (by kernel_rfl) ?_
    refine Pt.skip (p' := [1, 0, 1, 0, 0, 1, 1, 0, 0, 0]) (by kernel_rfl) (by kernel_rfl) ?_
    refine Pt.reg (by kernel_rfl) ?_
    refine AtO.seg 2 (by kernel_rfl) ?_
    refine AtO.done (p' := [1, 0, 1, 0, 0, 1, 1, 0, 0, 1, 0]) (F' := [(0, .sl (x0.map (eSl (eI .i64)))), (1, .fn 45 [.ref [.sl (k1_0.map (eI .i64))]]), (5, .lit (.int .i64 y8_L1)), (7, .lit (.int .i64 ((x0.length : Int)))), (8, .lit (.int .i64 y8_L1))]) (by kernel_rfl) (by kernel_rfl) (by kernel_rfl) ?_
    refine Pt.reg (by kernel_rfl) ?_
    obtain ⟨a1, h2, h⟩ := h
    refine AtO.seg 3 (by kernel_rfl) ?_
    refine AtO.val (by kernel_rfl) (val_idx_sl (t := 29) (x := (.tmp 12)) (ix := (.tmp 13)) (et := 38) (k := 1) (e := (eSl (eI .i64))) (l := x0) (i := y8_L1) (q := .i64) (a := a1) (by kernel_rfl) (by kernel_rfl) (by kernel_rfl) (by kernel_rfl) (by kernel_rfl) h2 (by kernel_rfl)) ?_
    obtain ⟨r3, h4, h⟩ := h
    refine AtO.seg 1 (by kernel_rfl) ?_
    refine AtO.call0 (x := (.tmp 11)) (g := 45) (caps := [.ref [.sl (k1_0.map (eI .i64))]]) (agl := [.opn (.tmp 15), .cap 0]) (ds := [.sl (a1.map (eI .i64)), .ref [.sl (k1_0.map (eI .i64))]]) (r := .lit (.bool r3)) (r' := .lit (.bool r3)) (ms := [none, none]) (by kernel_rfl) (by kernel_rfl) (by kernel_rfl) (by kernel_rfl) (by kernel_rfl) (by kernel_rfl) (pass_snap (a := .opn (.tmp 15)) (d0 := .sl (a1.map (eI .i64))) (d := .sl (a1.map (eI .i64))) (by kernel_rfl) (by kernel_rfl) (by kernel_rfl) (pass_snap (a := .cap 0) (d0 := .ref [.sl (k1_0.map (eI .i64))]) (d := .ref [.sl (k1_0.map (eI .i64))]) (by kernel_rfl) (by kernel_rfl) (by kernel_rfl) pass_nil)) h4 rfl (by kernel_rfl) ?_
    refine AtO.putb (fun hc => ?_) (fun hc => ?_)
    · have h := ite_t h (id hc)
      refine AtO.done (p' := [1, 0, 1, 0, 0, 1, 1, 0, 0, 1, 1]) (F' := [(0, .sl (x0.map (eSl (eI .i64)))), (1, .fn 45 [.ref [.sl (k1_0.map (eI .i64))]]), (5, .lit (.int .i64 y8_L1)), (7, .lit (.int .i64 ((x0.length : Int)))), (8, .lit (.int .i64 y8_L1)), (16, .lit (.bool true))]) (by kernel_rfl) (by kernel_rfl) (by kernel_rfl) ?_
      refine Pt.cond_t (p' := [1, 0, 1, 0, 0, 1, 1, 0, 0, 1, 1, 0, 0]) (F' := [(5, .lit (.int .i64 y8_L1))]) (y := (.tmp 16)) (by kernel_rfl) (by kernel_rfl) (by kernel_rfl) (by kernel_rfl) ?_
      refine Pt.reg (by kernel_rfl) ?_
      refine AtO.seg 2 (by kernel_rfl) ?_
      refine AtO.done (p' := [1, 0, 1, 0, 0, 1, 1, 0, 0, 1, 1, 0, 1]) (F' := [(4, .lit (.int .i64 y8_L1))]) (by kernel_rfl) (by kernel_rfl) (by kernel_rfl) ?_
      exact Pt.ret y8_L1 (by kernel_rfl) (by kernel_rfl) h
    · have h := ite_f h (fls hc)
      refine AtO.done (p' := [1, 0, 1, 0, 0, 1, 1, 0, 0, 1, 1]) (F' := [(0, .sl (x0.map (eSl (eI .i64)))), (1, .fn 45 [.ref [.sl (k1_0.map (eI .i64))]]), (5, .lit (.int .i64 y8_L1)), (7, .lit (.int .i64 ((x0.length : Int)))), (8, .lit (.int .i64 y8_L1)), (16, .lit (.bool false))]) (by kernel_rfl) (by kernel_rfl) (by kernel_rfl) ?_
      refine Pt.cond_f (p' := [1, 0, 1, 0, 0, 1, 1, 0, 0, 1, 1, 1]) (F' := [(0, .sl (x0.map (eSl (eI .i64)))), (1, .fn 45 [.ref [.sl (k1_0.map (eI .i64))]]), (7, .lit (.int .i64 ((x0.length : Int)))), (8, .lit (.int .i64 y8_L1))]) (y := (.tmp 16)) (by kernel_rfl) (by kernel_rfl) (by kernel_rfl) (by kernel_rfl) ?_
      refine Pt.skip (p' := [1, 0, 1, 0, 0, 1, 1, 1]) (by kernel_rfl) (by kernel_rfl) ?_
      refine Pt.reg (by kernel_rfl) ?_
      refine AtO.seg 2 (by kernel_rfl) ?_
      refine AtO.done (p' := [1, 0, 1, 0]) (F' := [(0, .sl (x0.map (eSl (eI .i64)))), (1, .fn 45 [.ref [.sl (k1_0.map (eI .i64))]]), (7, .lit (.int .i64 ((x0.length : Int)))), (8, .lit (.int .i64 ((IntKind.wrap .i64 (y8_L1 + 1)))))]) (by kernel_rfl) (by kernel_rfl) (by kernel_rfl) ?_
      exact h
  · have h := ite_f h (of_decide_eq_false hc)
    refine AtO.done (p' := [1, 0, 1, 0, 0, 1, 0]) (F' := [(0, .sl (x0.map (eSl (eI .i64)))), (1, .fn 45 [.ref [.sl (k1_0.map (eI .i64))]]), (7, .lit (.int .i64 ((x0.length : Int)))), (8, .lit (.int .i64 y8_L1)), (9, .lit (.bool false))]) (by kernel_rfl) (by kernel_rfl) (by kernel_rfl) ?_
    refine Pt.cond_f (p' := [1, 0, 1, 0, 0, 1, 0, 1]) (F' := []) (y := (.tmp 9)) (by kernel_rfl) (by kernel_rfl) (by kernel_rfl) (by kernel_rfl) ?_
    refine Pt.exit (p' := [1, 1, 0]) (F' := []) (by kernel_rfl) (by kernel_rfl) (by kernel_rfl) ?_
    refine Pt.reg (by kernel_rfl) ?_
    refine AtO.seg 1 (by kernel_rfl) ?_
    refine AtO.done (p' := [1, 1, 1]) (F' := [(4, .lit (.int .i64 ((-1))))]) (by kernel_rfl) (by kernel_rfl) (by kernel_rfl) ?_
    exact Pt.ret ((-1)) (by kernel_rfl) (by kernel_rfl) h
theorem enter (x0 : List (List Int)) (k1_0 : List Int) (φ : Int → Prop) (h :
    slices_IndexFunc_ssint_sint_v2.L1 x0 k1_0 0 φ) : ∃ r, φ r ∧ C x0 k1_0 r := by
  refine Ret.of_at (E := env) (f := 66) (fd := Tryd.f66) (body := B) (p := [0]) (V := W) (F := [(0, .sl (x0.map (eSl (eI .i64)))), (1, .fn 45 [.ref [.sl (k1_0.map (eI .i64))]]), (4, .undef), (5, .undef), (7, .undef), (8, .undef), (9, .undef), (16, .undef)]) (res := res) (φ := φ) (ds := [.sl (x0.map (eSl (eI .i64))), .fn 45 [.ref [.sl (k1_0.map (eI .i64))]]]) (by kernel_rfl) (by kernel_rfl) (by kernel_rfl) ⟨Nat.le_of_ble_eq_true (by kernel_rfl), Nat.le_of_ble_eq_true (by kernel_rfl)⟩ (by kernel_rfl) (by kernel_rfl) (by kernel_rfl) ?_
  refine Pt.reg (by kernel_rfl) ?_
  refine AtO.seg 1 (by kernel_rfl) ?_
  refine AtO.done (p' := [1, 0, 0]) (F' := [(0, .sl (x0.map (eSl (eI .i64)))), (1, .fn 45 [.ref [.sl (k1_0.map (eI .i64))]])]) (by kernel_rfl) (by kernel_rfl) (by kernel_rfl) ?_
  refine Pt.reg (by kernel_rfl) ?_
  refine AtO.seg 1 (by kernel_rfl) ?_
  refine AtO.val (by kernel_rfl) (val_len (x := (.tmp 6)) (t := 29) (et := 38) (d := .sl (x0.map (eSl (eI .i64)))) (e := (eSl (eI .i64))) (l := x0) (by kernel_rfl) (by kernel_rfl) elemsOf_sl (by kernel_rfl)) ?_
  refine AtO.seg 1 (by kernel_rfl) ?_
  refine AtO.done (p' := [1, 0, 1, 0]) (F' := [(0, .sl (x0.map (eSl (eI .i64)))), (1, .fn 45 [.ref [.sl (k1_0.map (eI .i64))]]), (7, .lit (.int .i64 ((x0.length : Int)))), (8, .lit (.int .i64 0))]) (by kernel_rfl) (by kernel_rfl) (by kernel_rfl) ?_
  exact h
end slices_IndexFunc_ssint_sint_v2
end Go.Own

namespace Go.Own
open Go.Proofs D
set_option maxRecDepth 100000
set_option maxHeartbeats 4000000
namespace slices_ContainsFunc_ssint_sint
noncomputable def B : Code := (Tryd.f44.body).getD .skip
def W : List Nat := [0, 1, 4]
def res (r : Bool) : D × List D := (.lit (.bool r), [])
def C (x0 : List (List Int)) (k1_0 : List Int) (r : Bool) : Prop := Ret env 44 [.sl (x0.map (eSl (eI .i64))), .fn 45 [.ref [.sl (k1_0.map (eI .i64))]]] (res r).1 (res r).2
theorem enter (x0 : List (List Int)) (k1_0 : List Int) (φ : Bool → Prop) (h :
    ∃ r1 : Int, slices_IndexFunc_ssint_sint_v2.C x0 k1_0 r1 ∧
    φ ((decide (0 ≤ r1)))) : ∃ r, φ r ∧ C x0 k1_0 r := by
  refine Ret.of_at (E := env) (f := 44) (fd := Tryd.f44) (body := B) (p := [0]) (V := W) (F := [(0, .sl (x0.map (eSl (eI .i64)))), (1, .fn 45 [.ref [.sl (k1_0.map (eI .i64))]]), (4, .undef)]) (res := res) (φ := φ) (ds := [.sl (x0.map (eSl (eI .i64))), .fn 45 [.ref [.sl (k1_0.map (eI .i64))]]]) (by kernel_rfl) (by kernel_rfl) (by kernel_rfl) ⟨Nat.le_of_ble_eq_true (by kernel_rfl), Nat.le_of_ble_eq_true (by kernel_rfl)⟩ (by kernel_rfl) (by kernel_rfl) (by kernel_rfl) ?_
  refine Pt.reg (by kernel_rfl) ?_
  refine AtO.seg 1 (by kernel_rfl) ?_
  refine AtO.done (p' := [1, 0]) (F' := [(0, .sl (x0.map (eSl (eI .i64)))), (1, .fn 45 [.ref [.sl (k1_0.map (eI .i64))]])]) (by kernel_rfl) (by kernel_rfl) (by kernel_rfl) ?_
  refine Pt.reg (by kernel_rfl) ?_
  obtain ⟨r1, h2, h⟩ := h
  refine AtO.seg 2 (by kernel_rfl) ?_
  refine AtO.call0 (x := (.func 66)) (g := 66) (caps := []) (agl := [.opn (.tmp 5), .opn (.tmp 6)]) (ds := [.sl (x0.map (eSl (eI .i64))), .fn 45 [.ref [.sl (k1_0.map (eI .i64))]]]) (r := .lit (.int .i64 r1)) (r' := .lit (.int .i64 r1)) (ms := [none, none]) (by kernel_rfl) (by kernel_rfl) (by kernel_rfl) (by kernel_rfl) (by kernel_rfl) (by kernel_rfl) (pass_snap (a := .opn (.tmp 5)) (d0 := .sl (x0.map (eSl (eI .i64)))) (d := .sl (x0.map (eSl (eI .i64)))) (by kernel_rfl) (by kernel_rfl) (by kernel_rfl) (pass_snap (a := .opn (.tmp 6)) (d0 := .fn 45 [.ref [.sl (k1_0.map (eI .i64))]]) (d := .fn 45 [.ref [.sl (k1_0.map (eI .i64))]]) (by kernel_rfl) (by kernel_rfl) (by kernel_rfl) pass_nil)) h2 rfl (by kernel_rfl) ?_
  refine AtO.seg 2 (by kernel_rfl) ?_
  refine AtO.done (p' := [1, 1]) (F' := [(4, .lit (.bool ((decide (0 ≤ r1)))))]) (by kernel_rfl) (by kernel_rfl) (by kernel_rfl) ?_
  exact Pt.ret ((decide (0 ≤ r1))) (by kernel_rfl) (by kernel_rfl) h
end slices_ContainsFunc_ssint_sint
end Go.Own

namespace Go.Own
open Go.Proofs D
set_option maxRecDepth 100000
set_option maxHeartbeats 4000000
namespace partition_Refines
noncomputable def B : Code := (Tryd.f26.body).getD .skip
def W : List Nat := [0, 1, 2, 3, 4, 5, 9]
def res (r : Bool) : D × List D := (.lit (.bool r), [])
def C (x0 : api_Partition) (x1 : api_Partition) (r : Bool) : Prop := Ret env 26 [.agg [.lit (.int .i64 x0.Rows), .sl (x0.Classes.map (eSl (eI .i64)))], .agg [.lit (.int .i64 x1.Rows), .sl (x1.Classes.map (eSl (eI .i64)))]] (res r).1 (res r).2
theorem enter (x0 : api_Partition) (x1 : api_Partition) (φ : Bool → Prop) (h :
    ∃ r1 : Int, partition_both.C x0 x1 r1 ∧
    (if r1 = 0 then
      ∃ r3 : List Int, partition_labels.C x1 r3 ∧
      ∃ r5 : Bool, slices_ContainsFunc_ssint_sint.C x0.Classes r3 r5 ∧
      φ ((not r5))
    else
      φ false)) : ∃ r, φ r ∧ C x0 x1 r := by
  refine Ret.of_at (E := env) (f := 26) (fd := Tryd.f26) (body := B) (p := [0]) (V := W) (F := [(0, .agg [.lit (.int .i64 x0.Rows), .sl (x0.Classes.map (eSl (eI .i64)))]), (1, .agg [.lit (.int .i64 x1.Rows), .sl (x1.Classes.map (eSl (eI .i64)))]), (2, .undef), (3, .undef), (4, .undef), (5, .undef), (9, .undef)]) (res := res) (φ := φ) (ds := [.agg [.lit (.int .i64 x0.Rows), .sl (x0.Classes.map (eSl (eI .i64)))], .agg [.lit (.int .i64 x1.Rows), .sl (x1.Classes.map (eSl (eI .i64)))]]) (by kernel_rfl) (by kernel_rfl) (by kernel_rfl) ⟨Nat.le_of_ble_eq_true (by kernel_rfl), Nat.le_of_ble_eq_true (by kernel_rfl)⟩ (by kernel_rfl) (by kernel_rfl) (by kernel_rfl) ?_
  refine Pt.reg (by kernel_rfl) ?_
  refine AtO.seg 3 (by kernel_rfl) ?_
  refine AtO.done (p' := [1, 0, 0]) (F' := [(0, .agg [.lit (.int .i64 x0.Rows), .sl (x0.Classes.map (eSl (eI .i64)))]), (1, .agg [.lit (.int .i64 x1.Rows), .sl (x1.Classes.map (eSl (eI .i64)))]), (2, .box [.lit (.int .i64 x0.Rows), .sl (x0.Classes.map (eSl (eI .i64)))]), (3, .box [.lit (.int .i64 x1.Rows), .sl (x1.Classes.map (eSl (eI .i64)))])]) (by kernel_rfl) (by kernel_rfl) (by kernel_rfl) ?_
  refine Pt.reg (by kernel_rfl) ?_
  obtain ⟨r1, h2, h⟩ := h
  refine AtO.seg 2 (by kernel_rfl) ?_
  refine AtO.call0 (x := (.func 40)) (g := 40) (caps := []) (agl := [.opn (.tmp 6), .opn (.tmp 7)]) (ds := [.agg [.lit (.int .i64 x0.Rows), .sl (x0.Classes.map (eSl (eI .i64)))], .agg [.lit (.int .i64 x1.Rows), .sl (x1.Classes.map (eSl (eI .i64)))]]) (r := .lit (.int .i64 r1)) (r' := .lit (.int .i64 r1)) (ms := [none, none]) (by kernel_rfl) (by kernel_rfl) (by kernel_rfl) (by kernel_rfl) (by kernel_rfl) (by kernel_rfl) (pass_snap (a := .opn (.tmp 6)) (d0 := .agg [.lit (.int .i64 x0.Rows), .sl (x0.Classes.map (eSl (eI .i64)))]) (d := .agg [.lit (.int .i64 x0.Rows), .sl (x0.Classes.map (eSl (eI .i64)))]) (by kernel_rfl) (by kernel_rfl) (by kernel_rfl) (pass_snap (a := .opn (.tmp 7)) (d0 := .agg [.lit (.int .i64 x1.Rows), .sl (x1.Classes.map (eSl (eI .i64)))]) (d := .agg [.lit (.int .i64 x1.Rows), .sl (x1.Classes.map (eSl (eI .i64)))]) (by kernel_rfl) (by kernel_rfl) (by kernel_rfl) pass_nil)) h2 rfl (by kernel_rfl) ?_
  refine AtO.bool (b := (r1 != 0)) (by kernel_rfl) (by kernel_rfl) (fun hc => ?_) (fun hc => ?_)
  · have h := ite_f h (bne_t hc)
    refine AtO.done (p' := [1, 0, 1]) (F' := [(0, .agg [.lit (.int .i64 x0.Rows), .sl (x0.Classes.map (eSl (eI .i64)))]), (1, .agg [.lit (.int .i64 x1.Rows), .sl (x1.Classes.map (eSl (eI .i64)))]), (2, .box [.lit (.int .i64 x0.Rows), .sl (x0.Classes.map (eSl (eI .i64)))]), (3, .box [.lit (.int .i64 x1.Rows), .sl (x1.Classes.map (eSl (eI .i64)))]), (9, .lit (.bool true))]) (by kernel_rfl) (by kernel_rfl) (by kernel_rfl) ?_
    refine Pt.cond_t (p' := [1, 0, 1, 0, 0]) (F' := []) (y := (.tmp 9)) (by kernel_rfl) (by kernel_rfl) (by kernel_rfl) (by kernel_rfl) ?_
    refine Pt.reg (by kernel_rfl) ?_
    refine AtO.seg 1 (by kernel_rfl) ?_
    refine AtO.done (p' := [1, 0, 1, 0, 1]) (F' := [(4, .lit (.bool false))]) (by kernel_rfl) (by kernel_rfl) (by kernel_rfl) ?_
    exact Pt.ret false (by kernel_rfl) (by kernel_rfl) h
  · have h := ite_t h (bne_f hc)
    refine AtO.done (p' := [1, 0, 1]) (F' := [(0, .agg [.lit (.int .i64 x0.Rows), .sl (x0.Classes.map (eSl (eI .i64)))]), (1, .agg [.lit (.int .i64 x1.Rows), .sl (x1.Classes.map (eSl (eI .i64)))]), (2, .box [.lit (.int .i64 x0.Rows), .sl (x0.Classes.map (eSl (eI .i64)))]), (3, .box [.lit (.int .i64 x1.Rows), .sl (x1.Classes.map (eSl (eI .i64)))]), (9, .lit (.bool false))]) (by kernel_rfl) (by kernel_rfl) (by kernel_rfl) ?_
    refine Pt.cond_f (p' := [1, 0, 1, 1]) (F' := [(0, .agg [.lit (.int .i64 x0.Rows), .sl (x0.Classes.map (eSl (eI .i64)))]), (1, .agg [.lit (.int .i64 x1.Rows), .sl (x1.Classes.map (eSl (eI .i64)))]), (2, .box [.lit (.int .i64 x0.Rows), .sl (x0.Classes.map (eSl (eI .i64)))]), (3, .box [.lit (.int .i64 x1.Rows), .sl (x1.Classes.map (eSl (eI .i64)))])]) (y := (.tmp 9)) (by kernel_rfl) (by kernel_rfl) (by kernel_rfl) (by kernel_rfl) ?_
    refine Pt.skip (p' := [1, 1, 0]) (by kernel_rfl) (by kernel_rfl) ?_
    refine Pt.reg (by kernel_rfl) ?_
    obtain ⟨r3, h4, h⟩ := h
    refine AtO.seg 1 (by kernel_rfl) ?_
    refine AtO.call0 (x := (.func 41)) (g := 41) (caps := []) (agl := [.opn (.tmp 10)]) (ds := [.agg [.lit (.int .i64 x1.Rows), .sl (x1.Classes.map (eSl (eI .i64)))]]) (r := .own (r3.map (eI .i64))) (r' := .own (r3.map (eI .i64))) (ms := [none]) (by kernel_rfl) (by kernel_rfl) (by kernel_rfl) (by kernel_rfl) (by kernel_rfl) (by kernel_rfl) (pass_snap (a := .opn (.tmp 10)) (d0 := .agg [.lit (.int .i64 x1.Rows), .sl (x1.Classes.map (eSl (eI .i64)))]) (d := .agg [.lit (.int .i64 x1.Rows), .sl (x1.Classes.map (eSl (eI .i64)))]) (by kernel_rfl) (by kernel_rfl) (by kernel_rfl) pass_nil) h4 (flat_ow (e := (eI .i64)) (fun _ => rfl)) (by kernel_rfl) ?_
    refine AtO.seg 2 (by kernel_rfl) ?_
    refine AtO.done (p' := [1, 1, 1, 0]) (F' := [(0, .agg [.lit (.int .i64 x0.Rows), .sl (x0.Classes.map (eSl (eI .i64)))]), (2, .box [.lit (.int .i64 x0.Rows), .sl (x0.Classes.map (eSl (eI .i64)))]), (5, .box [.own (r3.map (eI .i64))])]) (by kernel_rfl) (by kernel_rfl) (by kernel_rfl) ?_
    refine Pt.reg (by kernel_rfl) ?_
    obtain ⟨r5, h6, h⟩ := h
    refine AtO.seg 3 (by kernel_rfl) ?_
    refine AtO.call0 (x := (.func 44)) (g := 44) (caps := []) (agl := [.opn (.tmp 13), .opn (.tmp 14)]) (ds := [.sl (x0.Classes.map (eSl (eI .i64))), .fn 45 [.ref [.sl (r3.map (eI .i64))]]]) (r := .lit (.bool r5)) (r' := .lit (.bool r5)) (ms := [none, none]) (by kernel_rfl) (by kernel_rfl) (by kernel_rfl) (by kernel_rfl) (by kernel_rfl) (by kernel_rfl) (pass_snap (a := .opn (.tmp 13)) (d0 := .sl (x0.Classes.map (eSl (eI .i64)))) (d := .sl (x0.Classes.map (eSl (eI .i64)))) (by kernel_rfl) (by kernel_rfl) (by kernel_rfl) (pass_snap (a := .opn (.tmp 14)) (d0 := .fn 45 [.alias 5 []]) (d := .fn 45 [.ref [.sl (r3.map (eI .i64))]]) (by kernel_rfl) (by kernel_rfl) (snap_fn (snaps_cons (snap_box (s := 5) (ps := []) (by kernel_rfl) (fcs_cons (freeze_ow (e := (eI .i64)) (e' := (eI .i64)) (fun _ => rfl) r3) fcs_nil)) snaps_nil)) pass_nil)) h6 rfl (by kernel_rfl) ?_
    refine AtO.seg 2 (by kernel_rfl) ?_
    refine AtO.done (p' := [1, 1, 1, 1]) (F' := [(4, .lit (.bool ((not r5))))]) (by kernel_rfl) (by kernel_rfl) (by kernel_rfl) ?_
    exact Pt.ret ((not r5)) (by kernel_rfl) (by kernel_rfl) h
end partition_Refines
end Go.Own

namespace Go.Own
open Go.Proofs D
set_option maxRecDepth 100000
set_option maxHeartbeats 4000000
namespace drossref08_Refines
noncomputable def B : Code := (Tryd.f27.body).getD .skip
def W : List Nat := [0, 1, 2, 3, 4, 5, 6, 7, 8, 23, 31, 36, 58]
def res (r : Bool) : D × List D := (.lit (.bool r), [])
def C (x0 : api_Partition) (x1 : api_Partition) (r : Bool) : Prop := Ret env 27 [.agg [.lit (.int .i64 x0.Rows), .sl (x0.Classes.map (eSl (eI .i64)))], .agg [.lit (.int .i64 x1.Rows), .sl (x1.Classes.map (eSl (eI .i64)))]] (res r).1 (res r).2
def L1 (x0 : api_Partition) (r5 : List Int) (r7 : List Int) (y7_L1 : Int) (φ : Bool → Prop) : Prop := Pt env 27 W B [1, 1, 1, 0, 1, 0] [(0, .agg [.lit (.int .i64 x0.Rows), .sl (x0.Classes.map (eSl (eI .i64)))]), (2, .box [.lit (.int .i64 x0.Rows), .sl (x0.Classes.map (eSl (eI .i64)))]), (5, .own (r5.map (eI .i64))), (6, .own (r7.map (eI .i64))), (7, .lit (.int .i64 y7_L1))] (Lv env 27 Tryd.f27 2 res φ)
def L2 (x0 : api_Partition) (r5 : List Int) (r7 : List Int) (y7_L2 : Int) (y8_L2 : Int) (φ : Bool → Prop) : Prop := Pt env 27 W B [1, 1, 1, 0, 1, 0, 0, 1, 0, 0, 1, 0] [(0, .agg [.lit (.int .i64 x0.Rows), .sl (x0.Classes.map (eSl (eI .i64)))]), (2, .box [.lit (.int .i64 x0.Rows), .sl (x0.Classes.map (eSl (eI .i64)))]), (5, .own (r5.map (eI .i64))), (6, .own (r7.map (eI .i64))), (7, .lit (.int .i64 y7_L2)), (8, .lit (.int .i64 y8_L2))] (Lv env 27 Tryd.f27 2 res φ)
def L3 (x0 : api_Partition) (r5 : List Int) (r7 : List Int) (y7_L3 : Int) (y8_L2 : Int) (φ : Bool → Prop) : Prop := Pt env 27 W B [1, 1, 1, 0, 1, 0, 0, 1, 0, 0, 1, 0, 0, 1, 1] [(0, .agg [.lit (.int .i64 x0.Rows), .sl (x0.Classes.map (eSl (eI .i64)))]), (2, .box [.lit (.int .i64 x0.Rows), .sl (x0.Classes.map (eSl (eI .i64)))]), (5, .own (r5.map (eI .i64))), (6, .own (r7.map (eI .i64))), (7, .lit (.int .i64 y7_L3)), (8, .lit (.int .i64 y8_L2))] (Lv env 27 Tryd.f27 2 res φ)
theorem L1_step (x0 : api_Partition) (r5 : List Int) (r7 : List Int) (y7_L1 : Int) (φ : Bool → Prop) (h :
    (if y7_L1 < x0.Rows then
      drossref08_Refines.L2 x0 r5 r7 y7_L1 0 φ
    else
      φ true)) : L1 x0 r5 r7 y7_L1 φ := by
  unfold L1
  refine Pt.loop (p' := [1, 1, 1, 0, 1, 0, 0, 0, 0]) (by kernel_rfl) (by kernel_rfl) ?_
  refine Pt.reg (by kernel_rfl) ?_
  refine AtO.seg 3 (by kernel_rfl) ?_
  refine AtO.bool (b := (decide (y7_L1 < x0.Rows))) (by kernel_rfl) (by kernel_rfl) (fun hc => ?_) (fun hc => ?_)
  · have h := ite_t h (of_decide_eq_true hc)
    refine AtO.done (p' := [1, 1, 1, 0, 1, 0, 0, 0, 1]) (F' := [(0, .agg [.lit (.int .i64 x0.Rows), .sl (x0.Classes.map (eSl (eI .i64)))]), (2, .box [.lit (.int .i64 x0.Rows), .sl (x0.Classes.map (eSl (eI .i64)))]), (5, .own (r5.map (eI .i64))), (6, .own (r7.map (eI .i64))), (7, .lit (.int .i64 y7_L1)), (31, .lit (.bool true))]) (by kernel_rfl) (by kernel_rfl) (by kernel_rfl) ?_
    refine Pt.cond_t (p' := [1, 1, 1, 0, 1, 0, 0, 0, 1, 0]) (F' := [(0, .agg [.lit (.int .i64 x0.Rows), .sl (x0.Classes.map (eSl (eI .i64)))]), (2, .box [.lit (.int .i64 x0.Rows), .sl (x0.Classes.map (eSl (eI .i64)))]), (5, .own (r5.map (eI .i64))), (6, .own (r7.map (eI .i64))), (7, .lit (.int .i64 y7_L1))]) (y := (.tmp 31)) (by kernel_rfl) (by kernel_rfl) (by kernel_rfl) (by kernel_rfl) ?_
    refine Pt.skip (p' := [1, 1, 1, 0, 1, 0, 0, 1, 0, 0, 0]) (by kernel_rfl) (by kernel_rfl) ?_
    refine Pt.reg (by kernel_rfl) ?_
    refine AtO.seg 1 (by kernel_rfl) ?_
    refine AtO.done (p' := [1, 1, 1, 0, 1, 0, 0, 1, 0, 0, 1, 0]) (F' := [(0, .agg [.lit (.int .i64 x0.Rows), .sl (x0.Classes.map (eSl (eI .i64)))]), (2, .box [.lit (.int .i64 x0.Rows), .sl (x0.Classes.map (eSl (eI .i64)))]), (5, .own (r5.map (eI .i64))), (6, .own (r7.map (eI .i64))), (7, .lit (.int .i64 y7_L1)), (8, .lit (.int .i64 0))]) (by kernel_rfl) (by kernel_rfl) (by kernel_rfl) ?_
    exact h
  · have h := ite_f h (of_decide_eq_false hc)
    refine AtO.done (p' := [1, 1, 1, 0, 1, 0, 0, 0, 1]) (F' := [(0, .agg [.lit (.int .i64 x0.Rows), .sl (x0.Classes.map (eSl (eI .i64)))]), (2, .box [.lit (.int .i64 x0.Rows), .sl (x0.Classes.map (eSl (eI .i64)))]), (5, .own (r5.map (eI .i64))), (6, .own (r7.map (eI .i64))), (7, .lit (.int .i64 y7_L1)), (31, .lit (.bool false))]) (by kernel_rfl) (by kernel_rfl) (by kernel_rfl) ?_
    refine Pt.cond_f (p' := [1, 1, 1, 0, 1, 0, 0, 0, 1, 1]) (F' := []) (y := (.tmp 31)) (by kernel_rfl) (by kernel_rfl) (by kernel_rfl) (by kernel_rfl) ?_
    refine Pt.exit (p' := [1, 1, 1, 1, 0]) (F' := []) (by kernel_rfl) (by kernel_rfl) (by kernel_rfl) ?_
    refine Pt.reg (by kernel_rfl) ?_
    refine AtO.seg 1 (by kernel_rfl) ?_
    refine AtO.done (p' := [1, 1, 1, 1, 1]) (F' := [(4, .lit (.bool true))]) (by kernel_rfl) (by kernel_rfl) (by kernel_rfl) ?_
    exact Pt.ret true (by kernel_rfl) (by kernel_rfl) h
theorem L2_step (x0 : api_Partition) (r5 : List Int) (r7 : List Int) (y7_L2 : Int) (y8_L2 : Int) (φ : Bool → Prop) (h :
    (if y8_L2 < y7_L2 then
      ∃ a9, lget r5 y7_L2 = some a9 ∧
      ∃ a11, lget r5 y8_L2 = some a11 ∧
      (if a9 = a11 then
        ∃ a13, lget r7 y7_L2 = some a13 ∧
        ∃ a15, lget r7 y8_L2 = some a15 ∧
        (if a13 = a15 then
          drossref08_Refines.L3 x0 r5 r7 y7_L2 y8_L2 φ
        else
          φ false)
      else
        drossref08_Refines.L3 x0 r5 r7 y7_L2 y8_L2 φ)
    else
      drossref08_Refines.L1 x0 r5 r7 ((IntKind.wrap .i64 (y7_L2 + 1))) φ)) : L2 x0 r5 r7 y7_L2 y8_L2 φ := by
  unfold L2
  refine Pt.loop (p' := [1, 1, 1, 0, 1, 0, 0, 1, 0, 0, 1, 0, 0, 0, 0]) (by kernel_rfl) (by kernel_rfl) ?_
  refine Pt.reg (by kernel_rfl) ?_
  refine AtO.seg 2 (by kernel_rfl) ?_
  refine AtO.bool (b := (decide (y8_L2 < y7_L2))) (by kernel_rfl) (by kernel_rfl) (fun hc => ?_) (fun hc => ?_)
  · have h := ite_t h (of_decide_eq_true hc)
    refine AtO.done (p' := [1, 1, 1, 0, 1, 0, 0, 1, 0, 0, 1, 0, 0, 0, 1]) (F' := [(0, .agg [.lit (.int .i64 x0.Rows), .sl (x0.Classes.map (eSl (eI .i64)))]), (2, .box [.lit (.int .i64 x0.Rows), .sl (x0.Classes.map (eSl (eI .i64)))]), (5, .own (r5.map (eI .i64))), (6, .own (r7.map (eI .i64))), (7, .lit (.int .i64 y7_L2)), (8, .lit (.int .i64 y8_L2)), (36, .lit (.bool true))]) (by kernel_rfl) (by kernel_rfl) (by kernel_rfl) ?_
    refine Pt.cond_t (p' := [1, 1, 1, 0, 1, 0, 0, 1, 0, 0, 1, 0, 0, 0, 1, 0]) (F' := [(0, .agg [.lit (.int .i64 x0.Rows), .sl (x0.Classes.map (eSl (eI .i64)))]), (2, .box [.lit (.int .i64 x0.Rows), .sl (x0.Classes.map (eSl (eI .i64)))]), (5, .own (r5.map (eI .i64))), (6, .own (r7.map (eI .i64))), (7, .lit (.int .i64 y7_L2)), (8, .lit (.int .i64 y8_L2))]) (y := (.tmp 36)) (by kernel_rfl) (by kernel_rfl) (by kernel_rfl) (by kernel_rfl) ?_
    refine Pt.skip (p' := [1, 1, 1, 0, 1, 0, 0, 1, 0, 0, 1, 0, 0, 1, 0, 0, 0]) (by kernel_rfl) (by kernel_rfl) ?_
    refine Pt.reg (by kernel_rfl) ?_
    obtain ⟨a9, h10, h⟩ := h
    refine AtO.seg 2 (by kernel_rfl) ?_
    refine AtO.val (by kernel_rfl) (val_idx_ow (s := 5) (ps := []) (t := 38) (x := (.tmp 39)) (ix := (.tmp 40)) (et := 3) (k := 1) (e := (eI .i64)) (l := r5) (i := y7_L2) (q := .i64) (a := a9) (by kernel_rfl) (by kernel_rfl) (by kernel_rfl) (by kernel_rfl) (by kernel_rfl) (by kernel_rfl) h10 (by kernel_rfl)) ?_
    refine AtO.val (by kernel_rfl) (val_load_ow (t := 3) (x := (.tmp 41)) (s := 5) (ps := []) (n := (y7_L2.toNat)) (c := 0) (e := (eI .i64)) (l := r5) (a := a9) (d := .lit (.int .i64 a9)) (by kernel_rfl) (by kernel_rfl) (by kernel_rfl) (by kernel_rfl) (lget_some h10).2 (by kernel_rfl)) ?_
    obtain ⟨a11, h12, h⟩ := h
    refine AtO.seg 2 (by kernel_rfl) ?_
    refine AtO.val (by kernel_rfl) (val_idx_ow (s := 5) (ps := []) (t := 38) (x := (.tmp 43)) (ix := (.tmp 44)) (et := 3) (k := 1) (e := (eI .i64)) (l := r5) (i := y8_L2) (q := .i64) (a := a11) (by kernel_rfl) (by kernel_rfl) (by kernel_rfl) (by kernel_rfl) (by kernel_rfl) (by kernel_rfl) h12 (by kernel_rfl)) ?_
    refine AtO.val (by kernel_rfl) (val_load_ow (t := 3) (x := (.tmp 45)) (s := 5) (ps := []) (n := (y8_L2.toNat)) (c := 0) (e := (eI .i64)) (l := r5) (a := a11) (d := .lit (.int .i64 a11)) (by kernel_rfl) (by kernel_rfl) (by kernel_rfl) (by kernel_rfl) (lget_some h12).2 (by kernel_rfl)) ?_
    refine AtO.bool (b := (a9 == a11)) (by kernel_rfl) (by kernel_rfl) (fun hc => ?_) (fun hc => ?_)
    · have h := ite_t h (beq_t hc)
      obtain ⟨a13, h14, h⟩ := h
      refine AtO.seg 3 (by kernel_rfl) ?_
      refine AtO.val (by kernel_rfl) (val_idx_ow (s := 6) (ps := []) (t := 38) (x := (.tmp 49)) (ix := (.tmp 50)) (et := 3) (k := 1) (e := (eI .i64)) (l := r7) (i := y7_L2) (q := .i64) (a := a13) (by kernel_rfl) (by kernel_rfl) (by kernel_rfl) (by kernel_rfl) (by kernel_rfl) (by kernel_rfl) h14 (by kernel_rfl)) ?_
      refine AtO.val (by kernel_rfl) (val_load_ow (t := 3) (x := (.tmp 51)) (s := 6) (ps := []) (n := (y7_L2.toNat)) (c := 0) (e := (eI .i64)) (l := r7) (a := a13) (d := .lit (.int .i64 a13)) (by kernel_rfl) (by kernel_rfl) (by kernel_rfl) (by kernel_rfl) (lget_some h14).2 (by kernel_rfl)) ?_
      obtain ⟨a15, h16, h⟩ := h
      refine AtO.seg 2 (by kernel_rfl) ?_
      refine AtO.val (by kernel_rfl) (val_idx_ow (s := 6) (ps := []) (t := 38) (x := (.tmp 53)) (ix := (.tmp 54)) (et := 3) (k := 1) (e := (eI .i64)) (l := r7) (i := y8_L2) (q := .i64) (a := a15) (by kernel_rfl) (by kernel_rfl) (by kernel_rfl) (by kernel_rfl) (by kernel_rfl) (by kernel_rfl) h16 (by kernel_rfl)) ?_
      refine AtO.val (by kernel_rfl) (val_load_ow (t := 3) (x := (.tmp 55)) (s := 6) (ps := []) (n := (y8_L2.toNat)) (c := 0) (e := (eI .i64)) (l := r7) (a := a15) (d := .lit (.int .i64 a15)) (by kernel_rfl) (by kernel_rfl) (by kernel_rfl) (by kernel_rfl) (lget_some h16).2 (by kernel_rfl)) ?_
      refine AtO.bool (b := (a13 != a15)) (by kernel_rfl) (by kernel_rfl) (fun hc => ?_) (fun hc => ?_)
      · have h := ite_f h (bne_t hc)
        refine AtO.seg 1 (by kernel_rfl) ?_
        refine AtO.done (p' := [1, 1, 1, 0, 1, 0, 0, 1, 0, 0, 1, 0, 0, 1, 0, 0, 1]) (F' := [(0, .agg [.lit (.int .i64 x0.Rows), .sl (x0.Classes.map (eSl (eI .i64)))]), (2, .box [.lit (.int .i64 x0.Rows), .sl (x0.Classes.map (eSl (eI .i64)))]), (5, .own (r5.map (eI .i64))), (6, .own (r7.map (eI .i64))), (7, .lit (.int .i64 y7_L2)), (8, .lit (.int .i64 y8_L2)), (58, .lit (.bool true))]) (by kernel_rfl) (by kernel_rfl) (by kernel_rfl) ?_
        refine Pt.cond_t (p' := [1, 1, 1, 0, 1, 0, 0, 1, 0, 0, 1, 0, 0, 1, 0, 0, 1, 0, 0]) (F' := []) (y := (.tmp 58)) (by kernel_rfl) (by kernel_rfl) (by kernel_rfl) (by kernel_rfl) ?_
        refine Pt.reg (by kernel_rfl) ?_
        refine AtO.seg 1 (by kernel_rfl) ?_
        refine AtO.done (p' := [1, 1, 1, 0, 1, 0, 0, 1, 0, 0, 1, 0, 0, 1, 0, 0, 1, 0, 1]) (F' := [(4, .lit (.bool false))]) (by kernel_rfl) (by kernel_rfl) (by kernel_rfl) ?_
        exact Pt.ret false (by kernel_rfl) (by kernel_rfl) h
      · have h := ite_t h (bne_f hc)
        refine AtO.seg 1 (by kernel_rfl) ?_
        refine AtO.done (p' := [1, 1, 1, 0, 1, 0, 0, 1, 0, 0, 1, 0, 0, 1, 0, 0, 1]) (F' := [(0, .agg [.lit (.int .i64 x0.Rows), .sl (x0.Classes.map (eSl (eI .i64)))]), (2, .box [.lit (.int .i64 x0.Rows), .sl (x0.Classes.map (eSl (eI .i64)))]), (5, .own (r5.map (eI .i64))), (6, .own (r7.map (eI .i64))), (7, .lit (.int .i64 y7_L2)), (8, .lit (.int .i64 y8_L2)), (58, .lit (.bool false))]) (by kernel_rfl) (by kernel_rfl) (by kernel_rfl) ?_
        refine Pt.cond_f (p' := [1, 1, 1, 0, 1, 0, 0, 1, 0, 0, 1, 0, 0, 1, 0, 0, 1, 1]) (F' := [(0, .agg [.lit (.int .i64 x0.Rows), .sl (x0.Classes.map (eSl (eI .i64)))]), (2, .box [.lit (.int .i64 x0.Rows), .sl (x0.Classes.map (eSl (eI .i64)))]), (5, .own (r5.map (eI .i64))), (6, .own (r7.map (eI .i64))), (7, .lit (.int .i64 y7_L2)), (8, .lit (.int .i64 y8_L2))]) (y := (.tmp 58)) (by kernel_rfl) (by kernel_rfl) (by kernel_rfl) (by kernel_rfl) ?_
        refine Pt.skip (p' := [1, 1, 1, 0, 1, 0, 0, 1, 0, 0, 1, 0, 0, 1, 1]) (by kernel_rfl) (by kernel_rfl) ?_
        exact h
    · have h := ite_f h (beq_f hc)
      refine AtO.seg 11 (by kernel_rfl) ?_
      refine AtO.done (p' := [1, 1, 1, 0, 1, 0, 0, 1, 0, 0, 1, 0, 0, 1, 0, 0, 1]) (F' := [(0, .agg [.lit (.int .i64 x0.Rows), .sl (x0.Classes.map (eSl (eI .i64)))]), (2, .box [.lit (.int .i64 x0.Rows), .sl (x0.Classes.map (eSl (eI .i64)))]), (5, .own (r5.map (eI .i64))), (6, .own (r7.map (eI .i64))), (7, .lit (.int .i64 y7_L2)), (8, .lit (.int .i64 y8_L2)), (58, .lit (.bool false))]) (by kernel_rfl) (by kernel_rfl) (by kernel_rfl) ?_
      refine Pt.cond_f (p' := [1, 1, 1, 0, 1, 0, 0, 1, 0, 0, 1, 0, 0, 1, 0, 0, 1, 1]) (F' := [(0, .agg [.lit (.int .i64 x0.Rows), .sl (x0.Classes.map (eSl (eI .i64)))]), (2, .box [.lit (.int .i64 x0.Rows), .sl (x0.Classes.map (eSl (eI .i64)))]), (5, .own (r5.map (eI .i64))), (6, .own (r7.map (eI .i64))), (7, .lit (.int .i64 y7_L2)), (8, .lit (.int .i64 y8_L2))]) (y := (.tmp 58)) (by kernel_rfl) (by kernel_rfl) (by kernel_rfl) (by kernel_rfl) ?_
      refine Pt.skip (p' := [1, 1, 1, 0, 1, 0, 0, 1, 0, 0, 1, 0, 0, 1, 1]) (by kernel_rfl) (by kernel_rfl) ?_
      exact h
  · have h := ite_f h (of_decide_eq_false hc)
    refine AtO.done (p' := [1, 1, 1, 0, 1, 0, 0, 1, 0, 0, 1, 0, 0, 0, 1]) (F' := [(0, .agg [.lit (.int .i64 x0.Rows), .sl (x0.Classes.map (eSl (eI .i64)))]), (2, .box [.lit (.int .i64 x0.Rows), .sl (x0.Classes.map (eSl (eI .i64)))]), (5, .own (r5.map (eI .i64))), (6, .own (r7.map (eI .i64))), (7, .lit (.int .i64 y7_L2)), (8, .lit (.int .i64 y8_L2)), (36, .lit (.bool false))]) (by kernel_rfl) (by kernel_rfl) (by kernel_rfl) ?_
    refine Pt.cond_f (p' := [1, 1, 1, 0, 1, 0, 0, 1, 0, 0, 1, 0, 0, 0, 1, 1]) (F' := [(0, .agg [.lit (.int .i64 x0.Rows), .sl (x0.Classes.map (eSl (eI .i64)))]), (2, .box [.lit (.int .i64 x0.Rows), .sl (x0.Classes.map (eSl (eI .i64)))]), (5, .own (r5.map (eI .i64))), (6, .own (r7.map (eI .i64))), (7, .lit (.int .i64 y7_L2))]) (y := (.tmp 36)) (by kernel_rfl) (by kernel_rfl) (by kernel_rfl) (by kernel_rfl) ?_
    refine Pt.exit (p' := [1, 1, 1, 0, 1, 0, 0, 1, 1]) (F' := [(0, .agg [.lit (.int .i64 x0.Rows), .sl (x0.Classes.map (eSl (eI .i64)))]), (2, .box [.lit (.int .i64 x0.Rows), .sl (x0.Classes.map (eSl (eI .i64)))]), (5, .own (r5.map (eI .i64))), (6, .own (r7.map (eI .i64))), (7, .lit (.int .i64 y7_L2))]) (by kernel_rfl) (by kernel_rfl) (by kernel_rfl) ?_
    refine Pt.reg (by kernel_rfl) ?_
    refine AtO.seg 3 (by kernel_rfl) ?_
    refine AtO.done (p' := [1, 1, 1, 0, 1, 0]) (F' := [(0, .agg [.lit (.int .i64 x0.Rows), .sl (x0.Classes.map (eSl (eI .i64)))]), (2, .box [.lit (.int .i64 x0.Rows), .sl (x0.Classes.map (eSl (eI .i64)))]), (5, .own (r5.map (eI .i64))), (6, .own (r7.map (eI .i64))), (7, .lit (.int .i64 ((IntKind.wrap .i64 (y7_L2 + 1)))))]) (by kernel_rfl) (by kernel_rfl) (by kernel_rfl) ?_
    exact h
theorem L3_step (x0 : api_Partition) (r5 : List Int) (r7 : List Int) (y7_L3 : Int) (y8_L2 : Int) (φ : Bool → Prop) (h :
    drossref08_Refines.L2 x0 r5 r7 y7_L3 ((IntKind.wrap .i64 (y8_L2 + 1))) φ) : L3 x0 r5 r7 y7_L3 y8_L2 φ := by
  unfold L3
  refine Pt.reg (by kernel_rfl) ?_
  refine AtO.seg 3 (by kernel_rfl) ?_
  refine AtO.done (p' := [1, 1, 1, 0, 1, 0, 0, 1, 0, 0, 1, 0]) (F' := [(0, .agg [.lit (.int .i64 x0.Rows), .sl (x0.Classes.map (eSl (eI .i64)))]), (2, .box [.lit (.int .i64 x0.Rows), .sl (x0.Classes.map (eSl (eI .i64)))]), (5, .own (r5.map (eI .i64))), (6, .own (r7.map (eI .i64))), (7, .lit (.int .i64 y7_L3)), (8, .lit (.int .i64 ((IntKind.wrap .i64 (y8_L2 + 1)))))]) (by kernel_rfl) (by kernel_rfl) (by kernel_rfl) ?_
  exact h
theorem enter (x0 : api_Partition) (x1 : api_Partition) (φ : Bool → Prop) (h :
    ∃ r1 : Bool, drossref08_Valid.C x0 r1 ∧
    (if r1 = true then
      ∃ r3 : Bool, drossref08_Valid.C x1 r3 ∧
      (if r3 = true then
        (if x0.Rows = x1.Rows then
          ∃ r5 : List Int, drossref08_Labels.C x0 r5 ∧
          ∃ r7 : List Int, drossref08_Labels.C x1 r7 ∧
          drossref08_Refines.L1 x0 r5 r7 0 φ
        else
          φ false)
      else
        φ false)
    else
      φ false)) : ∃ r, φ r ∧ C x0 x1 r := by
  refine Ret.of_at (E := env) (f := 27) (fd := Tryd.f27) (body := B) (p := [0]) (V := W) (F := [(0, .agg [.lit (.int .i64 x0.Rows), .sl (x0.Classes.map (eSl (eI .i64)))]), (1, .agg [.lit (.int .i64 x1.Rows), .sl (x1.Classes.map (eSl (eI .i64)))]), (2, .undef), (3, .undef), (4, .undef), (5, .undef), (6, .undef), (7, .undef), (8, .undef), (23, .undef), (31, .undef), (36, .undef), (58, .undef)]) (res := res) (φ := φ) (ds := [.agg [.lit (.int .i64 x0.Rows), .sl (x0.Classes.map (eSl (eI .i64)))], .agg [.lit (.int .i64 x1.Rows), .sl (x1.Classes.map (eSl (eI .i64)))]]) (by kernel_rfl) (by kernel_rfl) (by kernel_rfl) ⟨Nat.le_of_ble_eq_true (by kernel_rfl), Nat.le_of_ble_eq_true (by kernel_rfl)⟩ (by kernel_rfl) (by kernel_rfl) (by kernel_rfl) ?_
  refine Pt.reg (by kernel_rfl) ?_
  refine AtO.seg 3 (by kernel_rfl) ?_
  refine AtO.done (p' := [1, 0, 0]) (F' := [(0, .agg [.lit (.int .i64 x0.Rows), .sl (x0.Classes.map (eSl (eI .i64)))]), (1, .agg [.lit (.int .i64 x1.Rows), .sl (x1.Classes.map (eSl (eI .i64)))]), (2, .box [.lit (.int .i64 x0.Rows), .sl (x0.Classes.map (eSl (eI .i64)))]), (3, .box [.lit (.int .i64 x1.Rows), .sl (x1.Classes.map (eSl (eI .i64)))])]) (by kernel_rfl) (by kernel_rfl) (by kernel_rfl) ?_
  refine Pt.reg (by kernel_rfl) ?_
  obtain ⟨r1, h2, h⟩ := h
  refine AtO.seg 1 (by kernel_rfl) ?_
  refine AtO.call0 (x := (.func 16)) (g := 16) (caps := []) (agl := [.opn (.tmp 9)]) (ds := [.agg [.lit (.int .i64 x0.Rows), .sl (x0.Classes.map (eSl (eI .i64)))]]) (r := .lit (.bool r1)) (r' := .lit (.bool r1)) (ms := [none]) (by kernel_rfl) (by kernel_rfl) (by kernel_rfl) (by kernel_rfl) (by kernel_rfl) (by kernel_rfl) (pass_snap (a := .opn (.tmp 9)) (d0 := .agg [.lit (.int .i64 x0.Rows), .sl (x0.Classes.map (eSl (eI .i64)))]) (d := .agg [.lit (.int .i64 x0.Rows), .sl (x0.Classes.map (eSl (eI .i64)))]) (by kernel_rfl) (by kernel_rfl) (by kernel_rfl) pass_nil) h2 rfl (by kernel_rfl) ?_
  refine AtO.putb (fun hc => ?_) (fun hc => ?_)
  · have h := ite_t h (id hc)
    obtain ⟨r3, h4, h⟩ := h
    refine AtO.seg 3 (by kernel_rfl) ?_
    refine AtO.call0 (x := (.func 16)) (g := 16) (caps := []) (agl := [.opn (.tmp 13)]) (ds := [.agg [.lit (.int .i64 x1.Rows), .sl (x1.Classes.map (eSl (eI .i64)))]]) (r := .lit (.bool r3)) (r' := .lit (.bool r3)) (ms := [none]) (by kernel_rfl) (by kernel_rfl) (by kernel_rfl) (by kernel_rfl) (by kernel_rfl) (by kernel_rfl) (pass_snap (a := .opn (.tmp 13)) (d0 := .agg [.lit (.int .i64 x1.Rows), .sl (x1.Classes.map (eSl (eI .i64)))]) (d := .agg [.lit (.int .i64 x1.Rows), .sl (x1.Classes.map (eSl (eI .i64)))]) (by kernel_rfl) (by kernel_rfl) (by kernel_rfl) pass_nil) h4 rfl (by kernel_rfl) ?_
    refine AtO.putb (fun hc => ?_) (fun hc => ?_)
    · have h := ite_t h (id hc)
      refine AtO.seg 7 (by kernel_rfl) ?_
      refine AtO.bool (b := (x0.Rows != x1.Rows)) (by kernel_rfl) (by kernel_rfl) (fun hc => ?_) (fun hc => ?_)
      · have h := ite_f h (bne_t hc)
        refine AtO.seg 1 (by kernel_rfl) ?_
        refine AtO.done (p' := [1, 0, 1]) (F' := [(0, .agg [.lit (.int .i64 x0.Rows), .sl (x0.Classes.map (eSl (eI .i64)))]), (1, .agg [.lit (.int .i64 x1.Rows), .sl (x1.Classes.map (eSl (eI .i64)))]), (2, .box [.lit (.int .i64 x0.Rows), .sl (x0.Classes.map (eSl (eI .i64)))]), (3, .box [.lit (.int .i64 x1.Rows), .sl (x1.Classes.map (eSl (eI .i64)))]), (23, .lit (.bool true))]) (by kernel_rfl) (by kernel_rfl) (by kernel_rfl) ?_
        refine Pt.cond_t (p' := [1, 0, 1, 0, 0]) (F' := []) (y := (.tmp 23)) (by kernel_rfl) (by kernel_rfl) (by kernel_rfl) (by kernel_rfl) ?_
        refine Pt.reg (by kernel_rfl) ?_
        refine AtO.seg 1 (by kernel_rfl) ?_
        refine AtO.done (p' := [1, 0, 1, 0, 1]) (F' := [(4, .lit (.bool false))]) (by kernel_rfl) (by kernel_rfl) (by kernel_rfl) ?_
        exact Pt.ret false (by kernel_rfl) (by kernel_rfl) h
      · have h := ite_t h (bne_f hc)
        refine AtO.seg 1 (by kernel_rfl) ?_
        refine AtO.done (p' := [1, 0, 1]) (F' := [(0, .agg [.lit (.int .i64 x0.Rows), .sl (x0.Classes.map (eSl (eI .i64)))]), (1, .agg [.lit (.int .i64 x1.Rows), .sl (x1.Classes.map (eSl (eI .i64)))]), (2, .box [.lit (.int .i64 x0.Rows), .sl (x0.Classes.map (eSl (eI .i64)))]), (3, .box [.lit (.int .i64 x1.Rows), .sl (x1.Classes.map (eSl (eI .i64)))]), (23, .lit (.bool false))]) (by kernel_rfl) (by kernel_rfl) (by kernel_rfl) ?_
        refine Pt.cond_f (p' := [1, 0, 1, 1]) (F' := [(0, .agg [.lit (.int .i64 x0.Rows), .sl (x0.Classes.map (eSl (eI .i64)))]), (1, .agg [.lit (.int .i64 x1.Rows), .sl (x1.Classes.map (eSl (eI .i64)))]), (2, .box [.lit (.int .i64 x0.Rows), .sl (x0.Classes.map (eSl (eI .i64)))]), (3, .box [.lit (.int .i64 x1.Rows), .sl (x1.Classes.map (eSl (eI .i64)))])]) (y := (.tmp 23)) (by kernel_rfl) (by kernel_rfl) (by kernel_rfl) (by kernel_rfl) ?_
        refine Pt.skip (p' := [1, 1, 0]) (by kernel_rfl) (by kernel_rfl) ?_
        refine Pt.reg (by kernel_rfl) ?_
        obtain ⟨r5, h6, h⟩ := h
        refine AtO.seg 1 (by kernel_rfl) ?_
        refine AtO.callD (x := (.func 39)) (g := 39) (caps := []) (agl := [.opn (.tmp 24)]) (ds := [.agg [.lit (.int .i64 x0.Rows), .sl (x0.Classes.map (eSl (eI .i64)))]]) (r := .own (r5.map (eI .i64))) (r' := .own (r5.map (eI .i64))) (by kernel_rfl) (by kernel_rfl) (by kernel_rfl) (by kernel_rfl) (by kernel_rfl) (pass_snap (a := .opn (.tmp 24)) (d0 := .agg [.lit (.int .i64 x0.Rows), .sl (x0.Classes.map (eSl (eI .i64)))]) (d := .agg [.lit (.int .i64 x0.Rows), .sl (x0.Classes.map (eSl (eI .i64)))]) (by kernel_rfl) (by kernel_rfl) (by kernel_rfl) pass_nil) h6 (by rw [(flat_ow (e := (eI .i64)) (fun _ => rfl))]; rfl) (by kernel_rfl) ?_
        obtain ⟨r7, h8, h⟩ := h
        refine AtO.seg 1 (by kernel_rfl) ?_
        refine AtO.call0 (x := (.func 39)) (g := 39) (caps := []) (agl := [.opn (.tmp 26)]) (ds := [.agg [.lit (.int .i64 x1.Rows), .sl (x1.Classes.map (eSl (eI .i64)))]]) (r := .own (r7.map (eI .i64))) (r' := .own (r7.map (eI .i64))) (ms := [none]) (by kernel_rfl) (by kernel_rfl) (by kernel_rfl) (by kernel_rfl) (by kernel_rfl) (by kernel_rfl) (pass_snap (a := .opn (.tmp 26)) (d0 := .agg [.lit (.int .i64 x1.Rows), .sl (x1.Classes.map (eSl (eI .i64)))]) (d := .agg [.lit (.int .i64 x1.Rows), .sl (x1.Classes.map (eSl (eI .i64)))]) (by kernel_rfl) (by kernel_rfl) (by kernel_rfl) pass_nil) h8 (flat_ow (e := (eI .i64)) (fun _ => rfl)) (by kernel_rfl) ?_
        refine AtO.seg 2 (by kernel_rfl) ?_
        refine AtO.done (p' := [1, 1, 1, 0, 0]) (F' := [(0, .agg [.lit (.int .i64 x0.Rows), .sl (x0.Classes.map (eSl (eI .i64)))]), (2, .box [.lit (.int .i64 x0.Rows), .sl (x0.Classes.map (eSl (eI .i64)))]), (5, .own (r5.map (eI .i64))), (6, .own (r7.map (eI .i64)))]) (by kernel_rfl) (by kernel_rfl) (by kernel_rfl) ?_
        refine Pt.reg (by kernel_rfl) ?_
        refine AtO.seg 1 (by kernel_rfl) ?_
        refine AtO.done (p' := [1, 1, 1, 0, 1, 0]) (F' := [(0, .agg [.lit (.int .i64 x0.Rows), .sl (x0.Classes.map (eSl (eI .i64)))]), (2, .box [.lit (.int .i64 x0.Rows), .sl (x0.Classes.map (eSl (eI .i64)))]), (5, .own (r5.map (eI .i64))), (6, .own (r7.map (eI .i64))), (7, .lit (.int .i64 0))]) (by kernel_rfl) (by kernel_rfl) (by kernel_rfl) ?_
        exact h
    · have h := ite_f h (fls hc)
      refine AtO.seg 9 (by kernel_rfl) ?_
      refine AtO.done (p' := [1, 0, 1]) (F' := [(0, .agg [.lit (.int .i64 x0.Rows), .sl (x0.Classes.map (eSl (eI .i64)))]), (1, .agg [.lit (.int .i64 x1.Rows), .sl (x1.Classes.map (eSl (eI .i64)))]), (2, .box [.lit (.int .i64 x0.Rows), .sl (x0.Classes.map (eSl (eI .i64)))]), (3, .box [.lit (.int .i64 x1.Rows), .sl (x1.Classes.map (eSl (eI .i64)))]), (23, .lit (.bool true))]) (by kernel_rfl) (by kernel_rfl) (by kernel_rfl) ?_
      refine Pt.cond_t (p' := [1, 0, 1, 0, 0]) (F' := []) (y := (.tmp 23)) (by kernel_rfl) (by kernel_rfl) (by kernel_rfl) (by kernel_rfl) ?_
      refine Pt.reg (by kernel_rfl) ?_
      refine AtO.seg 1 (by kernel_rfl) ?_
      refine AtO.done (p' := [1, 0, 1, 0, 1]) (F' := [(4, .lit (.bool false))]) (by kernel_rfl) (by kernel_rfl) (by kernel_rfl) ?_
      exact Pt.ret false (by kernel_rfl) (by kernel_rfl) h
  · have h := ite_f h (fls hc)
    refine AtO.seg 13 (by kernel_rfl) ?_
    refine AtO.done (p' := [1, 0, 1]) (F' := [(0, .agg [.lit (.int .i64 x0.Rows), .sl (x0.Classes.map (eSl (eI .i64)))]), (1, .agg [.lit (.int .i64 x1.Rows), .sl (x1.Classes.map (eSl (eI .i64)))]), (2, .box [.lit (.int .i64 x0.Rows), .sl (x0.Classes.map (eSl (eI .i64)))]), (3, .box [.lit (.int .i64 x1.Rows), .sl (x1.Classes.map (eSl (eI .i64)))]), (23, .lit (.bool true))]) (by kernel_rfl) (by kernel_rfl) (by kernel_rfl) ?_
    refine Pt.cond_t (p' := [1, 0, 1, 0, 0]) (F' := []) (y := (.tmp 23)) (by kernel_rfl) (by kernel_rfl) (by kernel_rfl) (by kernel_rfl) ?_
    refine Pt.reg (by kernel_rfl) ?_
    refine AtO.seg 1 (by kernel_rfl) ?_
    refine AtO.done (p' := [1, 0, 1, 0, 1]) (F' := [(4, .lit (.bool false))]) (by kernel_rfl) (by kernel_rfl) (by kernel_rfl) ?_
    exact Pt.ret false (by kernel_rfl) (by kernel_rfl) h
end drossref08_Refines
end Go.Own

namespace Go.Own
open Go.Proofs D
set_option maxRecDepth 100000
set_option maxHeartbeats 4000000
namespace drosslaw08_PartitionProduct
noncomputable def B : Code := (Tryd.f9.body).getD .skip
def W : List Nat := [0, 1, 2, 3, 4, 5, 6, 7, 8, 9, 21, 53]
def res (r : Bool) : D × List D := (.lit (.bool r), [])
def C (x0 : api_Partition) (x1 : api_Partition) (r : Bool) : Prop := Ret env 9 [.agg [.lit (.int .i64 x0.Rows), .sl (x0.Classes.map (eSl (eI .i64)))], .agg [.lit (.int .i64 x1.Rows), .sl (x1.Classes.map (eSl (eI .i64)))]] (res r).1 (res r).2
def L1  (φ : Bool → Prop) : Prop := Pt env 9 W B [1, 0, 1, 0, 0] [] (Lv env 9 Tryd.f9 2 res φ)
theorem L1_step  (φ : Bool → Prop) (h :
    ∃ r23 : Bool, drosslaw08_awake.C  r23 ∧
    φ r23) : L1  φ := by
  unfold L1
  refine Pt.reg (by kernel_rfl) ?_
  obtain ⟨r23, h24, h⟩ := h
  refine AtO.call0 (x := (.func 11)) (g := 11) (caps := []) (agl := []) (ds := []) (r := .lit (.bool r23)) (r' := .lit (.bool r23)) (ms := []) (by kernel_rfl) (by kernel_rfl) (by kernel_rfl) (by kernel_rfl) (by kernel_rfl) (by kernel_rfl) pass_nil h24 rfl (by kernel_rfl) ?_
  refine AtO.seg 1 (by kernel_rfl) ?_
  refine AtO.done (p' := [1, 0, 1, 0, 1]) (F' := [(4, .lit (.bool r23))]) (by kernel_rfl) (by kernel_rfl) (by kernel_rfl) ?_
  exact Pt.ret r23 (by kernel_rfl) (by kernel_rfl) h
theorem enter (x0 : api_Partition) (x1 : api_Partition) (φ : Bool → Prop) (h :
    ∃ r1 : Bool, drosslaw08_awake.C  r1 ∧
    (if r1 = true then
      ∃ r3 : Bool, drossref08_Few.C x0 r3 ∧
      (if r3 = true then
        ∃ r5 : Bool, drossref08_Few.C x1 r5 ∧
        (if r5 = true then
          ∃ r7 : api_Partition × Int, partition_Product.C x0 x1 r7 ∧
          ∃ r9 : api_Partition × Int, drossref08_Product.C x0 x1 r9 ∧
          ∃ r11 : Bool, partition_Refines.C x0 x1 r11 ∧
          (if r7.2 = r9.2 then
            ∃ r13 : Bool, drossref08_Same.C r7.1 r9.1 r13 ∧
            (if r13 = true then
              ∃ r15 : Bool, drossref08_Refines.C x0 x1 r15 ∧
              (if r11 = r15 then
                (if r7.2 = 0 then
                  ∃ r17 : Bool, partition_Refines.C r7.1 x0 r17 ∧
                  (if r17 = true then
                    ∃ r19 : Bool, partition_Refines.C r7.1 x1 r19 ∧
                    (if r19 = true then
                      ∃ r21 : Bool, drossref08_Same.C x0 r7.1 r21 ∧
                      φ ((r11 == r21))
                    else
                      φ false)
                  else
                    φ false)
                else
                  φ true)
              else
                φ false)
            else
              φ false)
          else
            φ false)
        else
          drosslaw08_PartitionProduct.L1  φ)
      else
        drosslaw08_PartitionProduct.L1  φ)
    else
      drosslaw08_PartitionProduct.L1  φ)) : ∃ r, φ r ∧ C x0 x1 r := by
  refine Ret.of_at (E := env) (f := 9) (fd := Tryd.f9) (body := B) (p := [0]) (V := W) (F := [(0, .agg [.lit (.int .i64 x0.Rows), .sl (x0.Classes.map (eSl (eI .i64)))]), (1, .agg [.lit (.int .i64 x1.Rows), .sl (x1.Classes.map (eSl (eI .i64)))]), (2, .undef), (3, .undef), (4, .undef), (5, .undef), (6, .undef), (7, .undef), (8, .undef), (9, .undef), (21, .undef), (53, .undef)]) (res := res) (φ := φ) (ds := [.agg [.lit (.int .i64 x0.Rows), .sl (x0.Classes.map (eSl (eI .i64)))], .agg [.lit (.int .i64 x1.Rows), .sl (x1.Classes.map (eSl (eI .i64)))]]) (by kernel_rfl) (by kernel_rfl) (by kernel_rfl) ⟨Nat.le_of_ble_eq_true (by kernel_rfl), Nat.le_of_ble_eq_true (by kernel_rfl)⟩ (by kernel_rfl) (by kernel_rfl) (by kernel_rfl) ?_
  refine Pt.reg (by kernel_rfl) ?_
  refine AtO.seg 3 (by kernel_rfl) ?_
  refine AtO.done (p' := [1, 0, 0]) (F' := [(0, .agg [.lit (.int .i64 x0.Rows), .sl (x0.Classes.map (eSl (eI .i64)))]), (1, .agg [.lit (.int .i64 x1.Rows), .sl (x1.Classes.map (eSl (eI .i64)))]), (2, .box [.lit (.int .i64 x0.Rows), .sl (x0.Classes.map (eSl (eI .i64)))]), (3, .box [.lit (.int .i64 x1.Rows), .sl (x1.Classes.map (eSl (eI .i64)))])]) (by kernel_rfl) (by kernel_rfl) (by kernel_rfl) ?_
  refine Pt.reg (by kernel_rfl) ?_
  obtain ⟨r1, h2, h⟩ := h
  refine AtO.call0 (x := (.func 11)) (g := 11) (caps := []) (agl := []) (ds := []) (r := .lit (.bool r1)) (r' := .lit (.bool r1)) (ms := []) (by kernel_rfl) (by kernel_rfl) (by kernel_rfl) (by kernel_rfl) (by kernel_rfl) (by kernel_rfl) pass_nil h2 rfl (by kernel_rfl) ?_
  refine AtO.putb (fun hc => ?_) (fun hc => ?_)
  · have h := ite_t h (id hc)
    obtain ⟨r3, h4, h⟩ := h
    refine AtO.seg 3 (by kernel_rfl) ?_
    refine AtO.call0 (x := (.func 22)) (g := 22) (caps := []) (agl := [.opn (.tmp 13)]) (ds := [.agg [.lit (.int .i64 x0.Rows), .sl (x0.Classes.map (eSl (eI .i64)))]]) (r := .lit (.bool r3)) (r' := .lit (.bool r3)) (ms := [none]) (by kernel_rfl) (by kernel_rfl) (by kernel_rfl) (by kernel_rfl) (by kernel_rfl) (by kernel_rfl) (pass_snap (a := .opn (.tmp 13)) (d0 := .agg [.lit (.int .i64 x0.Rows), .sl (x0.Classes.map (eSl (eI .i64)))]) (d := .agg [.lit (.int .i64 x0.Rows), .sl (x0.Classes.map (eSl (eI .i64)))]) (by kernel_rfl) (by kernel_rfl) (by kernel_rfl) pass_nil) h4 rfl (by kernel_rfl) ?_
    refine AtO.putb (fun hc => ?_) (fun hc => ?_)
    · have h := ite_t h (id hc)
      obtain ⟨r5, h6, h⟩ := h
      refine AtO.seg 4 (by kernel_rfl) ?_
      refine AtO.call0 (x := (.func 22)) (g := 22) (caps := []) (agl := [.opn (.tmp 18)]) (ds := [.agg [.lit (.int .i64 x1.Rows), .sl (x1.Classes.map (eSl (eI .i64)))]]) (r := .lit (.bool r5)) (r' := .lit (.bool r5)) (ms := [none]) (by kernel_rfl) (by kernel_rfl) (by kernel_rfl) (by kernel_rfl) (by kernel_rfl) (by kernel_rfl) (pass_snap (a := .opn (.tmp 18)) (d0 := .agg [.lit (.int .i64 x1.Rows), .sl (x1.Classes.map (eSl (eI .i64)))]) (d := .agg [.lit (.int .i64 x1.Rows), .sl (x1.Classes.map (eSl (eI .i64)))]) (by kernel_rfl) (by kernel_rfl) (by kernel_rfl) pass_nil) h6 rfl (by kernel_rfl) ?_
      refine AtO.putb (fun hc => ?_) (fun hc => ?_)
      · have h := ite_t h (id hc)
        refine AtO.seg 2 (by kernel_rfl) ?_
        refine AtO.done (p' := [1, 0, 1]) (F' := [(0, .agg [.lit (.int .i64 x0.Rows), .sl (x0.Classes.map (eSl (eI .i64)))]), (1, .agg [.lit (.int .i64 x1.Rows), .sl (x1.Classes.map (eSl (eI .i64)))]), (2, .box [.lit (.int .i64 x0.Rows), .sl (x0.Classes.map (eSl (eI .i64)))]), (3, .box [.lit (.int .i64 x1.Rows), .sl (x1.Classes.map (eSl (eI .i64)))]), (21, .lit (.bool false))]) (by kernel_rfl) (by kernel_rfl) (by kernel_rfl) ?_
        refine Pt.cond_f (p' := [1, 0, 1, 1]) (F' := [(0, .agg [.lit (.int .i64 x0.Rows), .sl (x0.Classes.map (eSl (eI .i64)))]), (1, .agg [.lit (.int .i64 x1.Rows), .sl (x1.Classes.map (eSl (eI .i64)))]), (2, .box [.lit (.int .i64 x0.Rows), .sl (x0.Classes.map (eSl (eI .i64)))]), (3, .box [.lit (.int .i64 x1.Rows), .sl (x1.Classes.map (eSl (eI .i64)))])]) (y := (.tmp 21)) (by kernel_rfl) (by kernel_rfl) (by kernel_rfl) (by kernel_rfl) ?_
        refine Pt.skip (p' := [1, 1, 0]) (by kernel_rfl) (by kernel_rfl) ?_
        refine Pt.reg (by kernel_rfl) ?_
        obtain ⟨r7, h8, h⟩ := h
        refine AtO.seg 2 (by kernel_rfl) ?_
        refine AtO.callZ (x := (.func 20)) (g := 20) (caps := []) (agl := [.opn (.tmp 24), .opn (.tmp 25)]) (ds := [.agg [.lit (.int .i64 x0.Rows), .sl (x0.Classes.map (eSl (eI .i64)))], .agg [.lit (.int .i64 x1.Rows), .sl (x1.Classes.map (eSl (eI .i64)))]]) (r := .tup [.agg [.lit (.int .i64 r7.1.Rows), .sl (r7.1.Classes.map (eSl (eI .i64)))], .lit (.int .i64 r7.2)]) (r' := .tup [.agg [.lit (.int .i64 r7.1.Rows), .sl (r7.1.Classes.map (eSl (eI .i64)))], .lit (.int .i64 r7.2)]) (ms := [none, none]) (by kernel_rfl) (by kernel_rfl) (by kernel_rfl) (by kernel_rfl) (by kernel_rfl) (by kernel_rfl) (pass_snap (a := .opn (.tmp 24)) (d0 := .agg [.lit (.int .i64 x0.Rows), .sl (x0.Classes.map (eSl (eI .i64)))]) (d := .agg [.lit (.int .i64 x0.Rows), .sl (x0.Classes.map (eSl (eI .i64)))]) (by kernel_rfl) (by kernel_rfl) (by kernel_rfl) (pass_snap (a := .opn (.tmp 25)) (d0 := .agg [.lit (.int .i64 x1.Rows), .sl (x1.Classes.map (eSl (eI .i64)))]) (d := .agg [.lit (.int .i64 x1.Rows), .sl (x1.Classes.map (eSl (eI .i64)))]) (by kernel_rfl) (by kernel_rfl) (by kernel_rfl) pass_nil)) h8 (by kernel_rfl) (by kernel_rfl) ?_
        refine AtO.seg 6 (by kernel_rfl) ?_
        refine AtO.done (p' := [1, 1, 1, 0]) (F' := [(0, .agg [.lit (.int .i64 x0.Rows), .sl (x0.Classes.map (eSl (eI .i64)))]), (1, .agg [.lit (.int .i64 x1.Rows), .sl (x1.Classes.map (eSl (eI .i64)))]), (2, .box [.lit (.int .i64 x0.Rows), .sl (x0.Classes.map (eSl (eI .i64)))]), (3, .box [.lit (.int .i64 x1.Rows), .sl (x1.Classes.map (eSl (eI .i64)))]), (5, .box [.lit (.int .i64 r7.1.Rows), .sl (r7.1.Classes.map (eSl (eI .i64)))]), (6, .lit (.int .i64 r7.2))]) (by kernel_rfl) (by kernel_rfl) (by kernel_rfl) ?_
        refine Pt.reg (by kernel_rfl) ?_
        obtain ⟨r9, h10, h⟩ := h
        refine AtO.seg 2 (by kernel_rfl) ?_
        refine AtO.call0 (x := (.func 25)) (g := 25) (caps := []) (agl := [.opn (.tmp 30), .opn (.tmp 31)]) (ds := [.agg [.lit (.int .i64 x0.Rows), .sl (x0.Classes.map (eSl (eI .i64)))], .agg [.lit (.int .i64 x1.Rows), .sl (x1.Classes.map (eSl (eI .i64)))]]) (r := .tup [.agg [.lit (.int .i64 r9.1.Rows), .own (r9.1.Classes.map (eOw (eI .i64)))], .lit (.int .i64 r9.2)]) (r' := .tup [.agg [.lit (.int .i64 r9.1.Rows), .sl (r9.1.Classes.map (eSl (eI .i64)))], .lit (.int .i64 r9.2)]) (ms := [none, none]) (by kernel_rfl) (by kernel_rfl) (by kernel_rfl) (by kernel_rfl) (by kernel_rfl) (by kernel_rfl) (pass_snap (a := .opn (.tmp 30)) (d0 := .agg [.lit (.int .i64 x0.Rows), .sl (x0.Classes.map (eSl (eI .i64)))]) (d := .agg [.lit (.int .i64 x0.Rows), .sl (x0.Classes.map (eSl (eI .i64)))]) (by kernel_rfl) (by kernel_rfl) (by kernel_rfl) (pass_snap (a := .opn (.tmp 31)) (d0 := .agg [.lit (.int .i64 x1.Rows), .sl (x1.Classes.map (eSl (eI .i64)))]) (d := .agg [.lit (.int .i64 x1.Rows), .sl (x1.Classes.map (eSl (eI .i64)))]) (by kernel_rfl) (by kernel_rfl) (by kernel_rfl) pass_nil)) h10 (flat_tup (flts_cons (flat_agg (flts_cons rfl (flts_cons (flat_ow (e := (eOw (eI .i64))) (Flt.ow (fun _ => rfl))) flts_nil))) (flts_cons rfl flts_nil))) (cold_tup (by kernel_rfl) (fcs_cons (freeze_agg (fcs_cons rfl (fcs_cons (freeze_ow (e := (eOw (eI .i64))) (e' := (eSl (eI .i64))) (Fzn.ow (fun _ => rfl)) r9.1.Classes) fcs_nil))) (fcs_cons rfl fcs_nil))) ?_
        refine AtO.seg 6 (by kernel_rfl) ?_
        refine AtO.done (p' := [1, 1, 1, 1, 0]) (F' := [(0, .agg [.lit (.int .i64 x0.Rows), .sl (x0.Classes.map (eSl (eI .i64)))]), (1, .agg [.lit (.int .i64 x1.Rows), .sl (x1.Classes.map (eSl (eI .i64)))]), (2, .box [.lit (.int .i64 x0.Rows), .sl (x0.Classes.map (eSl (eI .i64)))]), (3, .box [.lit (.int .i64 x1.Rows), .sl (x1.Classes.map (eSl (eI .i64)))]), (5, .box [.lit (.int .i64 r7.1.Rows), .sl (r7.1.Classes.map (eSl (eI .i64)))]), (6, .lit (.int .i64 r7.2)), (7, .box [.lit (.int .i64 r9.1.Rows), .sl (r9.1.Classes.map (eSl (eI .i64)))]), (8, .lit (.int .i64 r9.2))]) (by kernel_rfl) (by kernel_rfl) (by kernel_rfl) ?_
        refine Pt.reg (by kernel_rfl) ?_
        obtain ⟨r11, h12, h⟩ := h
        refine AtO.seg 2 (by kernel_rfl) ?_
        refine AtO.call0 (x := (.func 26)) (g := 26) (caps := []) (agl := [.opn (.tmp 35), .opn (.tmp 36)]) (ds := [.agg [.lit (.int .i64 x0.Rows), .sl (x0.Classes.map (eSl (eI .i64)))], .agg [.lit (.int .i64 x1.Rows), .sl (x1.Classes.map (eSl (eI .i64)))]]) (r := .lit (.bool r11)) (r' := .lit (.bool r11)) (ms := [none, none]) (by kernel_rfl) (by kernel_rfl) (by kernel_rfl) (by kernel_rfl) (by kernel_rfl) (by kernel_rfl) (pass_snap (a := .opn (.tmp 35)) (d0 := .agg [.lit (.int .i64 x0.Rows), .sl (x0.Classes.map (eSl (eI .i64)))]) (d := .agg [.lit (.int .i64 x0.Rows), .sl (x0.Classes.map (eSl (eI .i64)))]) (by kernel_rfl) (by kernel_rfl) (by kernel_rfl) (pass_snap (a := .opn (.tmp 36)) (d0 := .agg [.lit (.int .i64 x1.Rows), .sl (x1.Classes.map (eSl (eI .i64)))]) (d := .agg [.lit (.int .i64 x1.Rows), .sl (x1.Classes.map (eSl (eI .i64)))]) (by kernel_rfl) (by kernel_rfl) (by kernel_rfl) pass_nil)) h12 rfl (by kernel_rfl) ?_
        refine AtO.seg 1 (by kernel_rfl) ?_
        refine AtO.done (p' := [1, 1, 1, 1, 1, 0, 0]) (F' := [(0, .agg [.lit (.int .i64 x0.Rows), .sl (x0.Classes.map (eSl (eI .i64)))]), (1, .agg [.lit (.int .i64 x1.Rows), .sl (x1.Classes.map (eSl (eI .i64)))]), (2, .box [.lit (.int .i64 x0.Rows), .sl (x0.Classes.map (eSl (eI .i64)))]), (3, .box [.lit (.int .i64 x1.Rows), .sl (x1.Classes.map (eSl (eI .i64)))]), (5, .box [.lit (.int .i64 r7.1.Rows), .sl (r7.1.Classes.map (eSl (eI .i64)))]), (6, .lit (.int .i64 r7.2)), (7, .box [.lit (.int .i64 r9.1.Rows), .sl (r9.1.Classes.map (eSl (eI .i64)))]), (8, .lit (.int .i64 r9.2)), (9, .lit (.bool r11))]) (by kernel_rfl) (by kernel_rfl) (by kernel_rfl) ?_
        refine Pt.reg (by kernel_rfl) ?_
        refine AtO.seg 2 (by kernel_rfl) ?_
        refine AtO.bool (b := (r7.2 != r9.2)) (by kernel_rfl) (by kernel_rfl) (fun hc => ?_) (fun hc => ?_)
        · have h := ite_f h (bne_t hc)
          refine AtO.seg 13 (by kernel_rfl) ?_
          refine AtO.done (p' := [1, 1, 1, 1, 1, 0, 1]) (F' := [(0, .agg [.lit (.int .i64 x0.Rows), .sl (x0.Classes.map (eSl (eI .i64)))]), (1, .agg [.lit (.int .i64 x1.Rows), .sl (x1.Classes.map (eSl (eI .i64)))]), (2, .box [.lit (.int .i64 x0.Rows), .sl (x0.Classes.map (eSl (eI .i64)))]), (3, .box [.lit (.int .i64 x1.Rows), .sl (x1.Classes.map (eSl (eI .i64)))]), (5, .box [.lit (.int .i64 r7.1.Rows), .sl (r7.1.Classes.map (eSl (eI .i64)))]), (6, .lit (.int .i64 r7.2)), (9, .lit (.bool r11)), (53, .lit (.bool true))]) (by kernel_rfl) (by kernel_rfl) (by kernel_rfl) ?_
          refine Pt.cond_t (p' := [1, 1, 1, 1, 1, 0, 1, 0, 0]) (F' := []) (y := (.tmp 53)) (by kernel_rfl) (by kernel_rfl) (by kernel_rfl) (by kernel_rfl) ?_
          refine Pt.reg (by kernel_rfl) ?_
          refine AtO.seg 1 (by kernel_rfl) ?_
          refine AtO.done (p' := [1, 1, 1, 1, 1, 0, 1, 0, 1]) (F' := [(4, .lit (.bool false))]) (by kernel_rfl) (by kernel_rfl) (by kernel_rfl) ?_
          exact Pt.ret false (by kernel_rfl) (by kernel_rfl) h
        · have h := ite_t h (bne_f hc)
          obtain ⟨r13, h14, h⟩ := h
          refine AtO.seg 3 (by kernel_rfl) ?_
          refine AtO.call0 (x := (.func 14)) (g := 14) (caps := []) (agl := [.opn (.tmp 42), .opn (.tmp 43)]) (ds := [.agg [.lit (.int .i64 r7.1.Rows), .sl (r7.1.Classes.map (eSl (eI .i64)))], .agg [.lit (.int .i64 r9.1.Rows), .sl (r9.1.Classes.map (eSl (eI .i64)))]]) (r := .lit (.bool r13)) (r' := .lit (.bool r13)) (ms := [none, none]) (by kernel_rfl) (by kernel_rfl) (by kernel_rfl) (by kernel_rfl) (by kernel_rfl) (by kernel_rfl) (pass_snap (a := .opn (.tmp 42)) (d0 := .agg [.lit (.int .i64 r7.1.Rows), .sl (r7.1.Classes.map (eSl (eI .i64)))]) (d := .agg [.lit (.int .i64 r7.1.Rows), .sl (r7.1.Classes.map (eSl (eI .i64)))]) (by kernel_rfl) (by kernel_rfl) (by kernel_rfl) (pass_snap (a := .opn (.tmp 43)) (d0 := .agg [.lit (.int .i64 r9.1.Rows), .sl (r9.1.Classes.map (eSl (eI .i64)))]) (d := .agg [.lit (.int .i64 r9.1.Rows), .sl (r9.1.Classes.map (eSl (eI .i64)))]) (by kernel_rfl) (by kernel_rfl) (by kernel_rfl) pass_nil)) h14 rfl (by kernel_rfl) ?_
          refine AtO.putb (fun hc => ?_) (fun hc => ?_)
          · have h := ite_t h (id hc)
            obtain ⟨r15, h16, h⟩ := h
            refine AtO.seg 6 (by kernel_rfl) ?_
            refine AtO.call0 (x := (.func 27)) (g := 27) (caps := []) (agl := [.opn (.tmp 49), .opn (.tmp 50)]) (ds := [.agg [.lit (.int .i64 x0.Rows), .sl (x0.Classes.map (eSl (eI .i64)))], .agg [.lit (.int .i64 x1.Rows), .sl (x1.Classes.map (eSl (eI .i64)))]]) (r := .lit (.bool r15)) (r' := .lit (.bool r15)) (ms := [none, none]) (by kernel_rfl) (by kernel_rfl) (by kernel_rfl) (by kernel_rfl) (by kernel_rfl) (by kernel_rfl) (pass_snap (a := .opn (.tmp 49)) (d0 := .agg [.lit (.int .i64 x0.Rows), .sl (x0.Classes.map (eSl (eI .i64)))]) (d := .agg [.lit (.int .i64 x0.Rows), .sl (x0.Classes.map (eSl (eI .i64)))]) (by kernel_rfl) (by kernel_rfl) (by kernel_rfl) (pass_snap (a := .opn (.tmp 50)) (d0 := .agg [.lit (.int .i64 x1.Rows), .sl (x1.Classes.map (eSl (eI .i64)))]) (d := .agg [.lit (.int .i64 x1.Rows), .sl (x1.Classes.map (eSl (eI .i64)))]) (by kernel_rfl) (by kernel_rfl) (by kernel_rfl) pass_nil)) h16 rfl (by kernel_rfl) ?_
            refine AtO.bool (b := (r11 != r15)) (by kernel_rfl) (by kernel_rfl) (fun hc => ?_) (fun hc => ?_)
            · have h := ite_f h (bbne_t hc)
              refine AtO.seg 1 (by kernel_rfl) ?_
              refine AtO.done (p' := [1, 1, 1, 1, 1, 0, 1]) (F' := [(0, .agg [.lit (.int .i64 x0.Rows), .sl (x0.Classes.map (eSl (eI .i64)))]), (1, .agg [.lit (.int .i64 x1.Rows), .sl (x1.Classes.map (eSl (eI .i64)))]), (2, .box [.lit (.int .i64 x0.Rows), .sl (x0.Classes.map (eSl (eI .i64)))]), (3, .box [.lit (.int .i64 x1.Rows), .sl (x1.Classes.map (eSl (eI .i64)))]), (5, .box [.lit (.int .i64 r7.1.Rows), .sl (r7.1.Classes.map (eSl (eI .i64)))]), (6, .lit (.int .i64 r7.2)), (9, .lit (.bool r11)), (53, .lit (.bool true))]) (by kernel_rfl) (by kernel_rfl) (by kernel_rfl) ?_
              refine Pt.cond_t (p' := [1, 1, 1, 1, 1, 0, 1, 0, 0]) (F' := []) (y := (.tmp 53)) (by kernel_rfl) (by kernel_rfl) (by kernel_rfl) (by kernel_rfl) ?_
              refine Pt.reg (by kernel_rfl) ?_
              refine AtO.seg 1 (by kernel_rfl) ?_
              refine AtO.done (p' := [1, 1, 1, 1, 1, 0, 1, 0, 1]) (F' := [(4, .lit (.bool false))]) (by kernel_rfl) (by kernel_rfl) (by kernel_rfl) ?_
              exact Pt.ret false (by kernel_rfl) (by kernel_rfl) h
            · have h := ite_t h (bbne_f hc)
              refine AtO.seg 1 (by kernel_rfl) ?_
              refine AtO.done (p' := [1, 1, 1, 1, 1, 0, 1]) (F' := [(0, .agg [.lit (.int .i64 x0.Rows), .sl (x0.Classes.map (eSl (eI .i64)))]), (1, .agg [.lit (.int .i64 x1.Rows), .sl (x1.Classes.map (eSl (eI .i64)))]), (2, .box [.lit (.int .i64 x0.Rows), .sl (x0.Classes.map (eSl (eI .i64)))]), (3, .box [.lit (.int .i64 x1.Rows), .sl (x1.Classes.map (eSl (eI .i64)))]), (5, .box [.lit (.int .i64 r7.1.Rows), .sl (r7.1.Classes.map (eSl (eI .i64)))]), (6, .lit (.int .i64 r7.2)), (9, .lit (.bool r11)), (53, .lit (.bool false))]) (by kernel_rfl) (by kernel_rfl) (by kernel_rfl) ?_
              refine Pt.cond_f (p' := [1, 1, 1, 1, 1, 0, 1, 1]) (F' := [(0, .agg [.lit (.int .i64 x0.Rows), .sl (x0.Classes.map (eSl (eI .i64)))]), (1, .agg [.lit (.int .i64 x1.Rows), .sl (x1.Classes.map (eSl (eI .i64)))]), (2, .box [.lit (.int .i64 x0.Rows), .sl (x0.Classes.map (eSl (eI .i64)))]), (3, .box [.lit (.int .i64 x1.Rows), .sl (x1.Classes.map (eSl (eI .i64)))]), (5, .box [.lit (.int .i64 r7.1.Rows), .sl (r7.1.Classes.map (eSl (eI .i64)))]), (6, .lit (.int .i64 r7.2)), (9, .lit (.bool r11))]) (y := (.tmp 53)) (by kernel_rfl) (by kernel_rfl) (by kernel_rfl) (by kernel_rfl) ?_
              refine Pt.skip (p' := [1, 1, 1, 1, 1, 1, 0]) (by kernel_rfl) (by kernel_rfl) ?_
              refine Pt.reg (by kernel_rfl) ?_
              refine AtO.seg 1 (by kernel_rfl) ?_
              refine AtO.bool (b := (r7.2 != 0)) (by kernel_rfl) (by kernel_rfl) (fun hc => ?_) (fun hc => ?_)
              · have h := ite_f h (bne_t hc)
                refine AtO.seg 18 (by kernel_rfl) ?_
                refine AtO.done (p' := [1, 1, 1, 1, 1, 1, 1]) (F' := [(4, .lit (.bool true))]) (by kernel_rfl) (by kernel_rfl) (by kernel_rfl) ?_
                exact Pt.ret true (by kernel_rfl) (by kernel_rfl) h
              · have h := ite_t h (bne_f hc)
                obtain ⟨r17, h18, h⟩ := h
                refine AtO.seg 3 (by kernel_rfl) ?_
                refine AtO.call0 (x := (.func 26)) (g := 26) (caps := []) (agl := [.opn (.tmp 57), .opn (.tmp 58)]) (ds := [.agg [.lit (.int .i64 r7.1.Rows), .sl (r7.1.Classes.map (eSl (eI .i64)))], .agg [.lit (.int .i64 x0.Rows), .sl (x0.Classes.map (eSl (eI .i64)))]]) (r := .lit (.bool r17)) (r' := .lit (.bool r17)) (ms := [none, none]) (by kernel_rfl) (by kernel_rfl) (by kernel_rfl) (by kernel_rfl) (by kernel_rfl) (by kernel_rfl) (pass_snap (a := .opn (.tmp 57)) (d0 := .agg [.lit (.int .i64 r7.1.Rows), .sl (r7.1.Classes.map (eSl (eI .i64)))]) (d := .agg [.lit (.int .i64 r7.1.Rows), .sl (r7.1.Classes.map (eSl (eI .i64)))]) (by kernel_rfl) (by kernel_rfl) (by kernel_rfl) (pass_snap (a := .opn (.tmp 58)) (d0 := .agg [.lit (.int .i64 x0.Rows), .sl (x0.Classes.map (eSl (eI .i64)))]) (d := .agg [.lit (.int .i64 x0.Rows), .sl (x0.Classes.map (eSl (eI .i64)))]) (by kernel_rfl) (by kernel_rfl) (by kernel_rfl) pass_nil)) h18 rfl (by kernel_rfl) ?_
                refine AtO.putb (fun hc => ?_) (fun hc => ?_)
                · have h := ite_t h (id hc)
                  obtain ⟨r19, h20, h⟩ := h
                  refine AtO.seg 3 (by kernel_rfl) ?_
                  refine AtO.call0 (x := (.func 26)) (g := 26) (caps := []) (agl := [.opn (.tmp 61), .opn (.tmp 62)]) (ds := [.agg [.lit (.int .i64 r7.1.Rows), .sl (r7.1.Classes.map (eSl (eI .i64)))], .agg [.lit (.int .i64 x1.Rows), .sl (x1.Classes.map (eSl (eI .i64)))]]) (r := .lit (.bool r19)) (r' := .lit (.bool r19)) (ms := [none, none]) (by kernel_rfl) (by kernel_rfl) (by kernel_rfl) (by kernel_rfl) (by kernel_rfl) (by kernel_rfl) (pass_snap (a := .opn (.tmp 61)) (d0 := .agg [.lit (.int .i64 r7.1.Rows), .sl (r7.1.Classes.map (eSl (eI .i64)))]) (d := .agg [.lit (.int .i64 r7.1.Rows), .sl (r7.1.Classes.map (eSl (eI .i64)))]) (by kernel_rfl) (by kernel_rfl) (by kernel_rfl) (pass_snap (a := .opn (.tmp 62)) (d0 := .agg [.lit (.int .i64 x1.Rows), .sl (x1.Classes.map (eSl (eI .i64)))]) (d := .agg [.lit (.int .i64 x1.Rows), .sl (x1.Classes.map (eSl (eI .i64)))]) (by kernel_rfl) (by kernel_rfl) (by kernel_rfl) pass_nil)) h20 rfl (by kernel_rfl) ?_
                  refine AtO.putb (fun hc => ?_) (fun hc => ?_)
                  · have h := ite_t h (id hc)
                    obtain ⟨r21, h22, h⟩ := h
                    refine AtO.seg 5 (by kernel_rfl) ?_
                    refine AtO.call0 (x := (.func 14)) (g := 14) (caps := []) (agl := [.opn (.tmp 67), .opn (.tmp 68)]) (ds := [.agg [.lit (.int .i64 x0.Rows), .sl (x0.Classes.map (eSl (eI .i64)))], .agg [.lit (.int .i64 r7.1.Rows), .sl (r7.1.Classes.map (eSl (eI .i64)))]]) (r := .lit (.bool r21)) (r' := .lit (.bool r21)) (ms := [none, none]) (by kernel_rfl) (by kernel_rfl) (by kernel_rfl) (by kernel_rfl) (by kernel_rfl) (by kernel_rfl) (pass_snap (a := .opn (.tmp 67)) (d0 := .agg [.lit (.int .i64 x0.Rows), .sl (x0.Classes.map (eSl (eI .i64)))]) (d := .agg [.lit (.int .i64 x0.Rows), .sl (x0.Classes.map (eSl (eI .i64)))]) (by kernel_rfl) (by kernel_rfl) (by kernel_rfl) (pass_snap (a := .opn (.tmp 68)) (d0 := .agg [.lit (.int .i64 r7.1.Rows), .sl (r7.1.Classes.map (eSl (eI .i64)))]) (d := .agg [.lit (.int .i64 r7.1.Rows), .sl (r7.1.Classes.map (eSl (eI .i64)))]) (by kernel_rfl) (by kernel_rfl) (by kernel_rfl) pass_nil)) h22 rfl (by kernel_rfl) ?_
                    refine AtO.seg 4 (by kernel_rfl) ?_
                    refine AtO.done (p' := [1, 1, 1, 1, 1, 1, 1]) (F' := [(4, .lit (.bool ((r11 == r21))))]) (by kernel_rfl) (by kernel_rfl) (by kernel_rfl) ?_
                    exact Pt.ret ((r11 == r21)) (by kernel_rfl) (by kernel_rfl) h
                  · have h := ite_f h (fls hc)
                    refine AtO.seg 10 (by kernel_rfl) ?_
                    refine AtO.done (p' := [1, 1, 1, 1, 1, 1, 1]) (F' := [(4, .lit (.bool false))]) (by kernel_rfl) (by kernel_rfl) (by kernel_rfl) ?_
                    exact Pt.ret false (by kernel_rfl) (by kernel_rfl) h
                · have h := ite_f h (fls hc)
                  refine AtO.seg 14 (by kernel_rfl) ?_
                  refine AtO.done (p' := [1, 1, 1, 1, 1, 1, 1]) (F' := [(4, .lit (.bool false))]) (by kernel_rfl) (by kernel_rfl) (by kernel_rfl) ?_
                  exact Pt.ret false (by kernel_rfl) (by kernel_rfl) h
          · have h := ite_f h (fls hc)
            refine AtO.seg 9 (by kernel_rfl) ?_
            refine AtO.done (p' := [1, 1, 1, 1, 1, 0, 1]) (F' := [(0, .agg [.lit (.int .i64 x0.Rows), .sl (x0.Classes.map (eSl (eI .i64)))]), (1, .agg [.lit (.int .i64 x1.Rows), .sl (x1.Classes.map (eSl (eI .i64)))]), (2, .box [.lit (.int .i64 x0.Rows), .sl (x0.Classes.map (eSl (eI .i64)))]), (3, .box [.lit (.int .i64 x1.Rows), .sl (x1.Classes.map (eSl (eI .i64)))]), (5, .box [.lit (.int .i64 r7.1.Rows), .sl (r7.1.Classes.map (eSl (eI .i64)))]), (6, .lit (.int .i64 r7.2)), (9, .lit (.bool r11)), (53, .lit (.bool true))]) (by kernel_rfl) (by kernel_rfl) (by kernel_rfl) ?_
            refine Pt.cond_t (p' := [1, 1, 1, 1, 1, 0, 1, 0, 0]) (F' := []) (y := (.tmp 53)) (by kernel_rfl) (by kernel_rfl) (by kernel_rfl) (by kernel_rfl) ?_
            refine Pt.reg (by kernel_rfl) ?_
            refine AtO.seg 1 (by kernel_rfl) ?_
            refine AtO.done (p' := [1, 1, 1, 1, 1, 0, 1, 0, 1]) (F' := [(4, .lit (.bool false))]) (by kernel_rfl) (by kernel_rfl) (by kernel_rfl) ?_
            exact Pt.ret false (by kernel_rfl) (by kernel_rfl) h
      · have h := ite_f h (fls hc)
        refine AtO.seg 2 (by kernel_rfl) ?_
        refine AtO.done (p' := [1, 0, 1]) (F' := [(0, .agg [.lit (.int .i64 x0.Rows), .sl (x0.Classes.map (eSl (eI .i64)))]), (1, .agg [.lit (.int .i64 x1.Rows), .sl (x1.Classes.map (eSl (eI .i64)))]), (2, .box [.lit (.int .i64 x0.Rows), .sl (x0.Classes.map (eSl (eI .i64)))]), (3, .box [.lit (.int .i64 x1.Rows), .sl (x1.Classes.map (eSl (eI .i64)))]), (21, .lit (.bool true))]) (by kernel_rfl) (by kernel_rfl) (by kernel_rfl) ?_
        refine Pt.cond_t (p' := [1, 0, 1, 0, 0]) (F' := []) (y := (.tmp 21)) (by kernel_rfl) (by kernel_rfl) (by kernel_rfl) (by kernel_rfl) ?_
        exact h
    · have h := ite_f h (fls hc)
      refine AtO.seg 7 (by kernel_rfl) ?_
      refine AtO.done (p' := [1, 0, 1]) (F' := [(0, .agg [.lit (.int .i64 x0.Rows), .sl (x0.Classes.map (eSl (eI .i64)))]), (1, .agg [.lit (.int .i64 x1.Rows), .sl (x1.Classes.map (eSl (eI .i64)))]), (2, .box [.lit (.int .i64 x0.Rows), .sl (x0.Classes.map (eSl (eI .i64)))]), (3, .box [.lit (.int .i64 x1.Rows), .sl (x1.Classes.map (eSl (eI .i64)))]), (21, .lit (.bool true))]) (by kernel_rfl) (by kernel_rfl) (by kernel_rfl) ?_
      refine Pt.cond_t (p' := [1, 0, 1, 0, 0]) (F' := []) (y := (.tmp 21)) (by kernel_rfl) (by kernel_rfl) (by kernel_rfl) (by kernel_rfl) ?_
      exact h
  · have h := ite_f h (fls hc)
    refine AtO.seg 11 (by kernel_rfl) ?_
    refine AtO.done (p' := [1, 0, 1]) (F' := [(0, .agg [.lit (.int .i64 x0.Rows), .sl (x0.Classes.map (eSl (eI .i64)))]), (1, .agg [.lit (.int .i64 x1.Rows), .sl (x1.Classes.map (eSl (eI .i64)))]), (2, .box [.lit (.int .i64 x0.Rows), .sl (x0.Classes.map (eSl (eI .i64)))]), (3, .box [.lit (.int .i64 x1.Rows), .sl (x1.Classes.map (eSl (eI .i64)))]), (21, .lit (.bool true))]) (by kernel_rfl) (by kernel_rfl) (by kernel_rfl) ?_
    refine Pt.cond_t (p' := [1, 0, 1, 0, 0]) (F' := []) (y := (.tmp 21)) (by kernel_rfl) (by kernel_rfl) (by kernel_rfl) (by kernel_rfl) ?_
    exact h
end drosslaw08_PartitionProduct
end Go.Own
