/- What the functions that the law reaches answer. No conditions. -/
import Derived.Test.YtgclpapfgmckbaaDoorPartitionProductLaw3
import Derived.Test.YtgclpapfgmckbaaDoorPartitionProductLaw1
set_option linter.all false

namespace Go.Own
theorem sorted_eq {α : Type} (f : α → Int) : ∀ {l m : List α}, l.Pairwise (fun a b => f a < f b) → m.Pairwise (fun a b => f a < f b) → (∀ x, x ∈ l ↔ x ∈ m) → l = m
  | [], [], _, _, _ => rfl
  | [], b :: m, _, _, h => by have := (h b).2 (by simp); cases this
  | a :: l, [], _, _, h => by have := (h a).1 (by simp); cases this
  | a :: l, b :: m, hl, hm, h => by
    have hl' := List.pairwise_cons.1 hl
    have hm' := List.pairwise_cons.1 hm
    have hab : a = b := by
      rcases List.mem_cons.1 ((h a).1 (by simp)) with h1 | h1
      · exact h1
      · rcases List.mem_cons.1 ((h b).2 (by simp)) with h2 | h2
        · exact h2.symm
        · have := hm'.1 a h1; have := hl'.1 b h2; omega
    subst hab
    congr 1
    refine sorted_eq f hl'.2 hm'.2 fun x => ⟨fun hx => ?_, fun hx => ?_⟩
    · rcases List.mem_cons.1 ((h x).1 (by simp [hx])) with h1 | h1
      · subst h1; have := hl'.1 x hx; omega
      · exact h1
    · rcases List.mem_cons.1 ((h x).2 (by simp [hx])) with h1 | h1
      · subst h1; have := hm'.1 x hx; omega
      · exact h1
theorem CP_sub {p q : api_Partition} (hp : CP p.Rows p.Classes) (hq : CP p.Rows q.Classes) (h : ∀ i j, 0 ≤ i ∧ i < p.Rows → 0 ≤ j ∧ j < p.Rows → (Same p i j ↔ Same q i j)) {c : List Int} (hc : c ∈ p.Classes) : c ∈ q.Classes := by
  match c, hc, hp.two c hc with
  | a :: b :: t, hc, _ =>
    have hin := hp.inn _ hc
    have hlt : a < b := (List.pairwise_cons.1 (hp.inc _ hc)).1 b (by simp)
    have hs : Same q a b := (h a b (hin a (by simp)) (hin b (by simp))).1 (.inr ⟨_, hc, by simp, by simp⟩)
    rcases hs with h1 | ⟨d, hd, h1, h2⟩
    · omega
    · have : a :: b :: t = d := by
        refine sorted_eq id (hp.inc _ hc) (hq.inc _ hd) fun x => ⟨fun hx => ?_, fun hx => ?_⟩
        · rcases (h a x (hin a (by simp)) (hin x hx)).1 (.inr ⟨_, hc, by simp, hx⟩) with h3 | ⟨e, he, h3, h4⟩
          · rw [← h3]; exact h1
          · rw [hq.uniq hd he h1 h3]; exact h4
        · have hxr := hq.inn _ hd x hx
          rcases (h a x (hin a (by simp)) hxr).2 (.inr ⟨_, hd, h1, hx⟩) with h3 | ⟨e, he, h3, h4⟩
          · rw [← h3]; simp
          · rw [hp.uniq hc he (by simp) h3]; exact h4
      rw [this]; exact hd
theorem CP_eq {p q : api_Partition} (hr : p.Rows = q.Rows) (hp : CP p.Rows p.Classes) (hq : CP q.Rows q.Classes) (h : ∀ i j, 0 ≤ i ∧ i < p.Rows → 0 ≤ j ∧ j < p.Rows → (Same p i j ↔ Same q i j)) : p = q := by
  obtain ⟨r0, c0⟩ := p
  obtain ⟨r1, c1⟩ := q
  simp only at hr
  subst hr
  congr 1
  exact sorted_eq (fun c => c.headD 0) hp.heads hq.heads fun c => ⟨fun hc => CP_sub (p := ⟨r0, c0⟩) (q := ⟨r0, c1⟩) hp hq h hc, fun hc => CP_sub (p := ⟨r0, c1⟩) (q := ⟨r0, c0⟩) hq hp (fun i j hi hj => (h i j hi hj).symm) hc⟩
theorem bothF_ok {a b : api_Partition} (h : bothF a b = 0) : validF a = true ∧ validF b = true ∧ a.Rows = b.Rows := by
  unfold bothF at h
  split at h
  · split at h
    · split at h
      · exact ⟨by assumption, by assumption, by assumption⟩
      · omega
    · omega
  · omega
def prodP (a b : api_Partition) : api_Partition := part (zipL (labN a) (labN b))
theorem prodP_eq {a b : api_Partition} (h : bothF a b = 0) : prodF a b = (prodP a b, 0) := by
  obtain ⟨va, vb, hr⟩ := bothF_ok h
  unfold prodF prodP part
  rw [if_pos h]
  have : ((zipL (labN a) (labN b)).length : Int) = a.Rows := by
    have := (valid_iff.1 va).1
    simp [zipL, labN_len, ← hr]; omega
  rw [this]
theorem prodP_len {a b : api_Partition} (h : bothF a b = 0) : (zipL (labN a) (labN b)).length = a.Rows.toNat := by
  obtain ⟨va, vb, hr⟩ := bothF_ok h
  simp [zipL, labN_len, ← hr]
theorem prodP_valid {a b : api_Partition} (h : bothF a b = 0) : validF (prodP a b) = true := by
  have := (valid_iff.1 (bothF_ok h).1).2.1
  exact part_valid (by rw [prodP_len h]; omega)
theorem prodP_rows {a b : api_Partition} (h : bothF a b = 0) : (prodP a b).Rows = a.Rows := by
  have := (valid_iff.1 (bothF_ok h).1).1
  simp only [prodP, part, prodP_len h]; omega
theorem prodP_same {a b : api_Partition} (h : bothF a b = 0) {i j : Int} (hi : 0 ≤ i ∧ i < a.Rows) (hj : 0 ≤ j ∧ j < a.Rows) : Same (prodP a b) i j ↔ Same a i j ∧ Same b i j := by
  obtain ⟨va, vb, hr⟩ := bothF_ok h
  have hl := prodP_len h
  unfold prodP
  rw [part_same (by omega) (by omega), ← labN_same va hi hj, ← labN_same vb (by omega) (by omega)]
  obtain ⟨i, rfl⟩ := Int.eq_ofNat_of_zero_le hi.1
  obtain ⟨j, rfl⟩ := Int.eq_ofNat_of_zero_le hj.1
  show lget _ ((i : Nat) : Int) = lget _ ((j : Nat) : Int) ↔ lget _ ((i : Nat) : Int) = lget _ ((j : Nat) : Int) ∧ lget _ ((i : Nat) : Int) = lget _ ((j : Nat) : Int)
  simp only [lget_nat]
  have n1 := labN_len (p := a)
  have n2 := labN_len (p := b)
  have e1 : ((i : Nat) : Int) < a.Rows := hi.2
  have e2 : ((j : Nat) : Int) < a.Rows := hj.2
  exact zip_get (by rw [n1, n2, hr]) (by omega) (by omega)
def frst (z : List (Int × Int)) (i : Nat) : Nat := ((List.range (i + 1)).find? fun k => decide (z[k]? = z[i]?)).getD i
theorem frst_spec {z : List (Int × Int)} {i : Nat} : frst z i ≤ i ∧ z[frst z i]? = z[i]? ∧ ∀ k, k < frst z i → z[k]? ≠ z[i]? := by
  unfold frst
  cases h : (List.range (i + 1)).find? fun k => decide (z[k]? = z[i]?) with
  | none =>
    have := List.find?_eq_none.1 h i (by simp)
    simp at this
  | some k =>
    simp only [Option.getD_some]
    obtain ⟨h1, n, hn, h2, h3⟩ := List.find?_eq_some_iff_getElem.1 h
    simp only [List.getElem_range] at h2 h3
    subst h2
    simp only [List.length_range] at hn
    refine ⟨by omega, by simpa using h1, fun k hk => ?_⟩
    have := h3 k hk
    simpa using this
theorem frst_eq {z : List (Int × Int)} {i j : Nat} (h : z[i]? = z[j]?) : frst z i = frst z j := by
  obtain ⟨a1, a2, a3⟩ := frst_spec (z := z) (i := i)
  obtain ⟨b1, b2, b3⟩ := frst_spec (z := z) (i := j)
  rcases Nat.lt_trichotomy (frst z i) (frst z j) with h1 | h1 | h1
  · exact absurd (a2.trans h) (b3 _ h1)
  · exact h1
  · exact absurd (b2.trans h.symm) (a3 _ h1)
def frsts (z : List (Int × Int)) : List Int := (List.range z.length).map fun i => ((frst z i : Nat) : Int)
theorem frsts_alike {z : List (Int × Int)} : Alike (frsts z) z := by
  refine ⟨by simp [frsts], fun i j hi hj => ?_⟩
  simp only [frsts, List.length_map, List.length_range] at hi hj
  simp only [frsts, List.getElem?_map, List.getElem?_range hi, List.getElem?_range hj, Option.map_some, Option.some.injEq]
  constructor
  · intro h
    have h : frst z i = frst z j := by omega
    have a := (frst_spec (z := z) (i := i)).2.1
    have b := (frst_spec (z := z) (i := j)).2.1
    rw [← a, ← b, h]
  · intro h; rw [frst_eq h]
end Go.Own

namespace Go.Own
namespace drossref08_Product
theorem inner {x0 : api_Partition} {l m : List Int} {z : List (Int × Int)} {φ : api_Partition × Int → Prop} {i : Nat} (hz : z = l.zip m) (hl : l.length = z.length) (hm : m.length = z.length) (hi : i < z.length) (hn : z.length ≤ 1000)
    (k : Nat) : ∀ (y : List Int), k ≤ i → y.length = z.length → (∀ j : Nat, j < i → y[j]? = some ((frst z j : Nat) : Int)) → ((y[i]? = some (i : Int) ∧ ∀ j : Nat, k ≤ j → j < i → z[j]? ≠ z[i]?) ∨ y[i]? = some ((frst z i : Nat) : Int)) →
    (∀ y' : List Int, y'.length = z.length → (∀ j : Nat, j < i + 1 → y'[j]? = some ((frst z j : Nat) : Int)) → (∀ j : Nat, i < j → y'[j]? = y[j]?) → L1 x0 l m y' ((i + 1 : Nat) : Int) φ) → L2 x0 l m y i ((k : Int) - 1) φ := by
  induction k with
  | zero =>
    intro y hk hy hj hs h
    apply L2_step
    rw [if_neg (by omega), wrap_succ (by omega)]
    refine h y hy (fun j hji => ?_) (fun _ _ => rfl)
    by_cases hji2 : j < i
    · exact hj j hji2
    · have : j = i := by omega
      subst this
      rcases hs with ⟨h1, h2⟩ | h1
      · have hf := frst_spec (z := z) (i := j)
        have : frst z j = j := by
          rcases Nat.lt_or_ge (frst z j) j with h3 | h3
          · exact absurd hf.2.1 (h2 _ (by omega) h3)
          · omega
        rw [this]; exact h1
      · exact h1
  | succ k ih =>
    intro y hk hy hj hs h
    apply L2_step
    have hki : k < i := by omega
    have e : (((k + 1 : Nat) : Int) - 1) = (k : Int) := by omega
    rw [e, if_pos (by omega)]
    have gl : ∀ (q : Nat) (_ : q < z.length), lget l (q : Int) = some (l[q]'(by omega)) := fun q hq => by rw [lget_nat]; exact List.getElem?_eq_getElem (l := l) (by omega)
    have gm : ∀ (q : Nat) (_ : q < z.length), lget m (q : Int) = some (m[q]'(by omega)) := fun q hq => by rw [lget_nat]; exact List.getElem?_eq_getElem (l := m) (by omega)
    have zz : z[k]? = z[i]? ↔ l[k]'(by omega) = l[i]'(by omega) ∧ m[k]'(by omega) = m[i]'(by omega) := by
      have hzz := zip_get (u := l) (v := m) (i := k) (j := i) (by omega) (by omega) (by omega)
      rw [← hz] at hzz
      rw [hzz, List.getElem?_eq_getElem (l := l) (i := k) (by omega), List.getElem?_eq_getElem (l := l) (i := i) (by omega), List.getElem?_eq_getElem (l := m) (i := k) (by omega), List.getElem?_eq_getElem (l := m) (i := i) (by omega)]
      simp
    refine ⟨_, gl i hi, _, gl k (by omega), ?_⟩
    have go : ∀ y : List Int, y.length = z.length → (∀ j : Nat, j < i → y[j]? = some ((frst z j : Nat) : Int)) → ((y[i]? = some (i : Int) ∧ ∀ j : Nat, k ≤ j → j < i → z[j]? ≠ z[i]?) ∨ y[i]? = some ((frst z i : Nat) : Int)) →
        (∀ y' : List Int, y'.length = z.length → (∀ j : Nat, j < i + 1 → y'[j]? = some ((frst z j : Nat) : Int)) → (∀ j : Nat, i < j → y'[j]? = y[j]?) → L1 x0 l m y' ((i + 1 : Nat) : Int) φ) → L3 x0 l m y i k φ := by
      intro y hy hj hs h
      apply L3_step
      rw [wrap_id (by omega) (by omega)]
      exact ih y (by omega) hy hj hs h
    have stay : z[k]? ≠ z[i]? → L3 x0 l m y i k φ := fun hne => by
      refine go y hy hj ?_ h
      rcases hs with ⟨h1, h2⟩ | h1
      · refine .inl ⟨h1, fun j hj1 hj2 => ?_⟩
        by_cases hjk : j = k
        · subst hjk; exact hne
        · exact h2 j (by omega) hj2
      · exact .inr h1
    split
    · rename_i h1
      refine ⟨_, gm i hi, _, gm k (by omega), ?_⟩
      split
      · rename_i h2
        have heq : z[k]? = z[i]? := zz.2 ⟨h1.symm, h2.symm⟩
        obtain ⟨b, hb⟩ : ∃ b, lget y (i : Int) = some b := lget_lt (by omega) (by omega)
        refine ⟨((frst z k : Nat) : Int), by rw [lget_nat]; exact hj k hki, b, hb, ?_⟩
        have hset : lset y (i : Int) ((frst z k : Nat) : Int) = y.set i ((frst z k : Nat) : Int) := by simp [lset]
        rw [hset]
        refine go _ (by simp [hy]) (fun j hji => ?_) (.inr ?_) (fun y' a1 a2 a3 => h y' a1 a2 fun j hji => ?_)
        · rw [List.getElem?_set_ne (by omega)]; exact hj j hji
        · rw [List.getElem?_set_self (by omega), frst_eq heq]
        · rw [a3 j hji, List.getElem?_set_ne (by omega)]
      · rename_i h2
        exact stay fun hh => h2 (zz.1 hh).2.symm
    · rename_i h1
      exact stay fun hh => h1 (zz.1 hh).1.symm
theorem outer {x0 : api_Partition} {l m : List Int} {z : List (Int × Int)} {φ : api_Partition × Int → Prop} (hz : z = l.zip m) (hl : l.length = z.length) (hm : m.length = z.length) (hn : z.length ≤ 1000) (hr : x0.Rows = (z.length : Int)) (hφ : φ (part (frsts z), 0)) : ∀ (n i : Nat) (y : List Int), i + n = z.length → y.length = z.length → (∀ j : Nat, j < i → y[j]? = some ((frst z j : Nat) : Int)) → L1 x0 l m y i φ
  | 0, i, y, hi, hy, hj => by
    apply L1_step
    rw [if_neg (by omega)]
    have : y = frsts z := by
      apply List.ext_getElem?
      intro q
      by_cases hq : q < z.length
      · rw [hj q (by omega)]
        simp [frsts, hq]
      · rw [List.getElem?_eq_none (by omega), List.getElem?_eq_none (by simp [frsts]; omega)]
    subst this
    refine ⟨_, drossref08_group.spec (by omega), ?_⟩
    exact hφ
  | n + 1, i, y, hi, hy, hj => by
    apply L1_step
    rw [if_pos (by omega)]
    obtain ⟨b, hb⟩ : ∃ b, lget y (i : Int) = some b := lget_lt (by omega) (by omega)
    refine ⟨b, hb, ?_⟩
    have hset : lset y (i : Int) (i : Int) = y.set i (i : Int) := by simp [lset]
    rw [hset, wrap_id (by omega) (by omega)]
    refine inner hz hl hm (by omega) hn i _ (Nat.le_refl _) (by simp [hy]) (fun j hji => ?_) (.inl ⟨by rw [List.getElem?_set_self (by omega)], fun j h1 h2 => by omega⟩) (fun y' a1 a2 _ => ?_)
    · rw [List.getElem?_set_ne (by omega)]; exact hj j hji
    · exact outer hz hl hm hn hr hφ n (i + 1) y' (by omega) a1 a2
theorem spec {a b : api_Partition} (ha : Small a) (hb : Small b) : C a b (prodF a b) := by
  obtain ⟨r, h1, h2⟩ := enter a b (fun r => r = prodF a b) (by
    refine ⟨_, drossref08_Valid.spec ha, ?_⟩
    split
    · rename_i va
      refine ⟨_, drossref08_Valid.spec hb, ?_⟩
      split
      · rename_i vb
        split
        · rename_i hr
          have h0 : bothF a b = 0 := by simp [bothF, va, vb, hr]
          obtain ⟨v1, v2, v3⟩ := valid_iff.1 va
          refine ⟨_, drossref08_Labels.spec ha va, _, drossref08_Labels.spec hb vb, by omega, ?_⟩
          have n1 := labF_len (p := a)
          have n2 := labF_len (p := b)
          have hzl : ((labF a).zip (labF b)).length = a.Rows.toNat := by simp [n1, n2, ← hr]
          refine outer (z := (labF a).zip (labF b)) rfl (by omega) (by rw [hzl, n2, hr]) (by omega) (by omega) ?_ a.Rows.toNat 0 _ (by omega) (by simp [hzl]) (fun j hj => by omega)
          rw [prodP_eq h0]
          congr 1
          have va' := prodP_valid h0
          have hal : Alike (frsts ((labF a).zip (labF b))) (zipL (labN a) (labN b)) := by
            have a1 := frsts_alike (z := (labF a).zip (labF b))
            refine ⟨by rw [a1.len, hzl, prodP_len h0], fun i j hi hj => ?_⟩
            rw [a1.iff i j hi hj]
            rw [a1.len, hzl] at hi hj
            have m1 := labN_len (p := a)
            have m2 := labN_len (p := b)
            unfold zipL
            rw [zip_get (by rw [n1, n2, hr]) (by omega) (by omega), zip_get (by rw [m1, m2, hr]) (by omega) (by omega)]
            have q1 := labF_same va (i := (i : Int)) (j := (j : Int)) (by omega) (by omega)
            have q2 := labN_same va (i := (i : Int)) (j := (j : Int)) (by omega) (by omega)
            have q3 := labF_same vb (i := (i : Int)) (j := (j : Int)) (by omega) (by omega)
            have q4 := labN_same vb (i := (i : Int)) (j := (j : Int)) (by omega) (by omega)
            simp only [lget_nat] at q1 q2 q3 q4
            rw [q1, q2, q3, q4]
          unfold prodP part
          rw [grpF_alike hal, hal.len]
        · rename_i hr
          simp [prodF, bothF, va, vb, hr]
      · rename_i vb
        simp [prodF, bothF, va, vb]
    · rename_i va
      simp [prodF, bothF, va])
  rw [← h1]; exact h2
end drossref08_Product
end Go.Own

namespace Go.Own
def Bad1 (l c : List Int) (i : Int) : Prop := lab1 l i ≠ lab1 l (c.headD 0)
structure In1 (l c : List Int) : Prop where
  ne : c ≠ []
  has : ∀ i ∈ c, ∃ a, lget l i = some a
theorem partition_Refines_1_1.spec {l c : List Int} (h : In1 l c) {i : Int} (hi : i ∈ c) : ∃ b, partition_Refines_1_1.C i l c b ∧ (b = true ↔ Bad1 l c i) := by
  obtain ⟨a, ha⟩ := h.has i hi
  obtain ⟨h0, hh0⟩ : ∃ h0, c[0]? = some h0 := by
    match c, h.ne with
    | x :: t, _ => exact ⟨x, rfl⟩
  have hd : c.headD 0 = h0 := by
    match c, hh0 with
    | x :: t, e => simpa using e
  obtain ⟨b, hb⟩ := h.has h0 (List.mem_of_getElem? hh0)
  obtain ⟨r, h1, h2⟩ := partition_Refines_1_1.enter i l c (fun r => (r = true ↔ Bad1 l c i)) (by
    refine ⟨a, ha, h0, by have := lget_nat (l := c) (k := 0); rw [hh0] at this; exact this, b, hb, ?_⟩
    unfold Bad1
    rw [hd, lab1_of ha, lab1_of hb]
    simp)
  exact ⟨r, h2, h1⟩
namespace slices_IndexFunc_sint_int
theorem loop {l c : List Int} (h : In1 l c) (hn : c.length < Big) : ∀ (r : List Int) (k : Nat), c.drop k = r → (∀ i ∈ c.take k, ¬ Bad1 l c i) → L1 c l c k (fun r => (0 ≤ r ↔ ∃ i ∈ c, Bad1 l c i))
  | [], k, hd, hb => by
    apply L1_step
    have hk := drop_ge hd
    rw [if_neg (by omega)]
    rw [List.take_of_length_le hk] at hb
    constructor
    · intro h; omega
    · rintro ⟨i, h1, h2⟩; exact absurd h2 (hb i h1)
  | i :: r, k, hd, hb => by
    apply L1_step
    have hk := drop_lt hd
    have hi := List.mem_of_getElem? (drop_get hd)
    rw [if_pos (by omega)]
    obtain ⟨b, h1, h2⟩ := partition_Refines_1_1.spec h hi
    refine ⟨i, lget_drop hd, b, h1, ?_⟩
    split
    · rename_i hbt
      exact ⟨fun _ => ⟨i, hi, h2.1 hbt⟩, fun _ => by omega⟩
    · rename_i hbf
      rw [wrap_succ (by unfold Big at hn; omega)]
      refine loop h hn r (k + 1) (drop_next hd) fun j hj => ?_
      rw [take_succ_get (drop_get hd)] at hj
      rcases List.mem_append.1 hj with hj | hj
      · exact hb j hj
      · simp at hj; subst hj; exact fun hh => hbf (h2.2 hh)
theorem spec {l c : List Int} (h : In1 l c) (hn : c.length < Big) : ∃ r, C c l c r ∧ (0 ≤ r ↔ ∃ i ∈ c, Bad1 l c i) := by
  obtain ⟨r, h1, h2⟩ := enter c l c (fun r => (0 ≤ r ↔ ∃ i ∈ c, Bad1 l c i)) (loop h hn c 0 rfl (by simp))
  exact ⟨r, h2, h1⟩
end slices_IndexFunc_sint_int
theorem slices_ContainsFunc_sint_int.spec {l c : List Int} (h : In1 l c) (hn : c.length < Big) : ∃ b, slices_ContainsFunc_sint_int.C c l c b ∧ (b = true ↔ ∃ i ∈ c, Bad1 l c i) := by
  obtain ⟨r, h1, h2⟩ := slices_ContainsFunc_sint_int.enter c l c (fun b => (b = true ↔ ∃ i ∈ c, Bad1 l c i)) (by
    obtain ⟨q, q1, q2⟩ := slices_IndexFunc_sint_int.spec h hn
    refine ⟨q, q1, ?_⟩
    rw [← q2]; simp)
  exact ⟨r, h2, h1⟩
theorem partition_Refines_1.spec {l c : List Int} (h : In1 l c) (hn : c.length < Big) : ∃ b, partition_Refines_1.C c l b ∧ (b = true ↔ ∃ i ∈ c, Bad1 l c i) := by
  obtain ⟨r, h1, h2⟩ := partition_Refines_1.enter c l (fun b => (b = true ↔ ∃ i ∈ c, Bad1 l c i)) (slices_ContainsFunc_sint_int.spec h hn)
  exact ⟨r, h2, h1⟩
def Bad2 (l : List Int) (c : List Int) : Prop := ∃ i ∈ c, Bad1 l c i
namespace slices_IndexFunc_ssint_sint_v2
theorem loop {l : List Int} {cs : List (List Int)} (h : ∀ c ∈ cs, In1 l c) (hn : cs.length < Big) (hn2 : ∀ c ∈ cs, c.length < Big) : ∀ (r : List (List Int)) (k : Nat), cs.drop k = r → (∀ c ∈ cs.take k, ¬ Bad2 l c) → L1 cs l k (fun r => (0 ≤ r ↔ ∃ c ∈ cs, Bad2 l c))
  | [], k, hd, hb => by
    apply L1_step
    have hk := drop_ge hd
    rw [if_neg (by omega)]
    rw [List.take_of_length_le hk] at hb
    constructor
    · intro h; omega
    · rintro ⟨i, h1, h2⟩; exact absurd h2 (hb i h1)
  | c :: r, k, hd, hb => by
    apply L1_step
    have hk := drop_lt hd
    have hc := List.mem_of_getElem? (drop_get hd)
    rw [if_pos (by omega)]
    obtain ⟨b, h1, h2⟩ := partition_Refines_1.spec (h c hc) (hn2 c hc)
    refine ⟨c, lget_drop hd, b, h1, ?_⟩
    split
    · rename_i hbt
      exact ⟨fun _ => ⟨c, hc, h2.1 hbt⟩, fun _ => by omega⟩
    · rename_i hbf
      rw [wrap_succ (by unfold Big at hn; omega)]
      refine loop h hn hn2 r (k + 1) (drop_next hd) fun j hj => ?_
      rw [take_succ_get (drop_get hd)] at hj
      rcases List.mem_append.1 hj with hj | hj
      · exact hb j hj
      · simp at hj; subst hj; exact fun hh => hbf (h2.2 hh)
theorem spec {l : List Int} {cs : List (List Int)} (h : ∀ c ∈ cs, In1 l c) (hn : cs.length < Big) (hn2 : ∀ c ∈ cs, c.length < Big) : ∃ r, C cs l r ∧ (0 ≤ r ↔ ∃ c ∈ cs, Bad2 l c) := by
  obtain ⟨r, h1, h2⟩ := enter cs l (fun r => (0 ≤ r ↔ ∃ c ∈ cs, Bad2 l c)) (loop h hn hn2 cs 0 rfl (by simp))
  exact ⟨r, h2, h1⟩
end slices_IndexFunc_ssint_sint_v2
theorem slices_ContainsFunc_ssint_sint.spec {l : List Int} {cs : List (List Int)} (h : ∀ c ∈ cs, In1 l c) (hn : cs.length < Big) (hn2 : ∀ c ∈ cs, c.length < Big) : ∃ b, slices_ContainsFunc_ssint_sint.C cs l b ∧ (b = true ↔ ∃ c ∈ cs, Bad2 l c) := by
  obtain ⟨r, h1, h2⟩ := slices_ContainsFunc_ssint_sint.enter cs l (fun b => (b = true ↔ ∃ c ∈ cs, Bad2 l c)) (by
    obtain ⟨q, q1, q2⟩ := slices_IndexFunc_ssint_sint_v2.spec h hn hn2
    refine ⟨q, q1, ?_⟩
    rw [← q2]; simp)
  exact ⟨r, h2, h1⟩
def RefP (a b : api_Partition) : Prop := bothF a b = 0 ∧ ∀ i j, 0 ≤ i ∧ i < a.Rows → 0 ≤ j ∧ j < a.Rows → Same a i j → Same b i j
theorem partition_Refines.spec {a b : api_Partition} (ha : Small a) (hb : Small b) : ∃ r, partition_Refines.C a b r ∧ (r = true ↔ RefP a b) := by
  obtain ⟨r, h1, h2⟩ := partition_Refines.enter a b (fun r => (r = true ↔ RefP a b)) (by
    refine ⟨_, partition_both.spec ha hb, ?_⟩
    split
    · rename_i h0
      obtain ⟨va, vb, hr⟩ := bothF_ok h0
      obtain ⟨v1, v2, v3⟩ := valid_iff.1 va
      have hin : ∀ c ∈ a.Classes, In1 (labN b) c := fun c hc => ⟨fun hn => by have := v3.two c hc; rw [hn] at this; simp at this, fun i hi => lget_lt (v3.inn c hc i hi).1 (by have := (v3.inn c hc i hi).2; rw [labN_len]; omega)⟩
      obtain ⟨q, q1, q2⟩ := slices_ContainsFunc_ssint_sint.spec hin ha.1 ha.2
      refine ⟨_, partition_labels.spec hb vb, q, q1, ?_⟩
      have key : (∃ c ∈ a.Classes, Bad2 (labN b) c) ↔ ¬ RefP a b := by
        have sm : ∀ {i j : Int}, 0 ≤ i ∧ i < a.Rows → 0 ≤ j ∧ j < a.Rows → (lab1 (labN b) i = lab1 (labN b) j ↔ Same b i j) := fun hi hj => by
          rw [lab1_iff (by rw [labN_len]; omega) (by rw [labN_len]; omega), labN_same vb (by omega) (by omega)]
        constructor
        · rintro ⟨c, hc, i, hi, hbad⟩ hR
          have m1 := v3.inn c hc i hi
          have hm := headD_mem (v3.two c hc)
          have m2 := v3.inn c hc _ hm
          exact hbad ((sm m1 m2).2 (hR.2 i _ m1 m2 (.inr ⟨c, hc, hi, hm⟩)))
        · intro hR
          apply Classical.byContradiction
          intro hno
          apply hR
          refine ⟨h0, fun i j hi hj hs => ?_⟩
          rcases hs with rfl | ⟨c, hc, h1, h2⟩
          · exact .inl rfl
          · have e : ∀ k ∈ c, lab1 (labN b) k = lab1 (labN b) (c.headD 0) := fun k hk => Classical.byContradiction fun hne => hno ⟨c, hc, k, hk, hne⟩
            exact (sm hi hj).1 ((e i h1).trans (e j h2).symm)
      cases q with
      | true => simp only [Bool.not_true, Bool.false_eq_true, false_iff]; exact key.1 (q2.1 rfl)
      | false =>
        simp only [Bool.not_false, true_iff]
        exact Classical.byContradiction fun hn => by have := q2.2 (key.2 hn); cases this
    · rename_i h0
      simp only [Bool.false_eq_true, false_iff]
      exact fun hR => h0 hR.1)
  exact ⟨r, h2, h1⟩
namespace drossref08_Refines
theorem inner {x0 : api_Partition} {l m : List Int} {φ : Bool → Prop} {i : Nat} (hl : (l.length : Int) = x0.Rows) (hm : (m.length : Int) = x0.Rows) (hi : (i : Int) < x0.Rows) (hn : x0.Rows ≤ 1000) (hno : (∃ k : Nat, k < i ∧ l[i]? = l[k]? ∧ m[i]? ≠ m[k]?) → φ false) (hyes : (∀ k : Nat, k < i → l[i]? = l[k]? → m[i]? = m[k]?) → L1 x0 l m ((i + 1 : Nat) : Int) φ) : ∀ (n k : Nat), k + n = i → (∀ q : Nat, q < k → l[i]? = l[q]? → m[i]? = m[q]?) → L2 x0 l m i k φ
  | 0, k, hk, hq => by
    apply L2_step
    rw [if_neg (by omega), wrap_succ (by omega)]
    exact hyes fun q h1 => hq q (by omega)
  | n + 1, k, hk, hq => by
    apply L2_step
    rw [if_pos (by omega)]
    have li := List.getElem?_eq_getElem (l := l) (i := i) (by omega)
    have lk := List.getElem?_eq_getElem (l := l) (i := k) (by omega)
    have mi := List.getElem?_eq_getElem (l := m) (i := i) (by omega)
    have mk := List.getElem?_eq_getElem (l := m) (i := k) (by omega)
    refine ⟨_, by rw [lget_nat]; exact li, _, by rw [lget_nat]; exact lk, ?_⟩
    have go : (l[i]? = l[k]? → m[i]? = m[k]?) → L3 x0 l m i k φ := fun hh => by
      apply L3_step
      rw [wrap_succ (by omega)]
      refine inner hl hm hi hn hno hyes n (k + 1) (by omega) fun q hq1 => ?_
      by_cases hqk : q = k
      · subst hqk; exact hh
      · exact hq q (by omega)
    split
    · rename_i e1
      refine ⟨_, by rw [lget_nat]; exact mi, _, by rw [lget_nat]; exact mk, ?_⟩
      split
      · rename_i e2
        exact go fun _ => by rw [mi, mk, e2]
      · rename_i e2
        refine hno ⟨k, by omega, by rw [li, lk, e1], fun h => e2 ?_⟩
        rw [mi, mk] at h; exact Option.some.inj h
    · rename_i e1
      exact go fun h => by rw [li, lk] at h; exact absurd (Option.some.inj h) e1
theorem outer {x0 : api_Partition} {l m : List Int} {φ : Bool → Prop} (hl : (l.length : Int) = x0.Rows) (hm : (m.length : Int) = x0.Rows) (hn : x0.Rows ≤ 1000) (hno : (∃ i k : Nat, i < l.length ∧ k < i ∧ l[i]? = l[k]? ∧ m[i]? ≠ m[k]?) → φ false) (hyes : (∀ i k : Nat, i < l.length → k < i → l[i]? = l[k]? → m[i]? = m[k]?) → φ true) : ∀ (n i : Nat), i + n = l.length → (∀ q k : Nat, q < i → k < q → l[q]? = l[k]? → m[q]? = m[k]?) → L1 x0 l m i φ
  | 0, i, hi, hq => by
    apply L1_step
    rw [if_neg (by omega)]
    exact hyes fun q k h1 h2 => hq q k (by omega) h2
  | n + 1, i, hi, hq => by
    apply L1_step
    rw [if_pos (by omega)]
    refine inner hl hm (by omega) hn (fun ⟨k, h1, h2, h3⟩ => hno ⟨i, k, by omega, h1, h2, h3⟩) (fun hh => ?_) i 0 (by omega) (fun q hq => by omega)
    refine outer hl hm hn hno hyes n (i + 1) (by omega) fun q k h1 h2 => ?_
    by_cases hqi : q = i
    · subst hqi; exact hh k h2
    · exact hq q k (by omega) h2
theorem spec {a b : api_Partition} (ha : Small a) (hb : Small b) : ∃ r, C a b r ∧ (r = true ↔ RefP a b) := by
  obtain ⟨r, h1, h2⟩ := enter a b (fun r => (r = true ↔ RefP a b)) (by
    refine ⟨_, drossref08_Valid.spec ha, ?_⟩
    split
    · rename_i va
      refine ⟨_, drossref08_Valid.spec hb, ?_⟩
      split
      · rename_i vb
        split
        · rename_i hr
          have h0 : bothF a b = 0 := by simp [bothF, va, vb, hr]
          obtain ⟨v1, v2, v3⟩ := valid_iff.1 va
          have n1 := labF_len (p := a)
          have n2 := labF_len (p := b)
          refine ⟨_, drossref08_Labels.spec ha va, _, drossref08_Labels.spec hb vb, ?_⟩
          have sa : ∀ i k : Nat, i < a.Rows.toNat → k < a.Rows.toNat → ((labF a)[i]? = (labF a)[k]? ↔ Same a i k) := fun i k hi hk => by
            have := labF_same va (i := (i : Int)) (j := (k : Int)) (by omega) (by omega)
            simpa only [lget_nat] using this
          have sb : ∀ i k : Nat, i < a.Rows.toNat → k < a.Rows.toNat → ((labF b)[i]? = (labF b)[k]? ↔ Same b i k) := fun i k hi hk => by
            have := labF_same vb (i := (i : Int)) (j := (k : Int)) (by omega) (by omega)
            simpa only [lget_nat] using this
          have sym : ∀ {p : api_Partition} {i j : Int}, Same p i j → Same p j i := by
            rintro p i j (rfl | ⟨c, hc, h1, h2⟩)
            · exact .inl rfl
            · exact .inr ⟨c, hc, h2, h1⟩
          refine outer (by rw [n1]; omega) (by rw [n2]; omega) v2 ?_ ?_ (labF a).length 0 (by omega) (fun q k h => by omega)
          · rintro ⟨i, k, hi, hk, e1, e2⟩
            rw [n1] at hi
            simp only [Bool.false_eq_true, false_iff]
            intro hR
            exact e2 ((sb i k hi (by omega)).2 (hR.2 i k (by omega) (by omega) ((sa i k hi (by omega)).1 e1)))
          · intro hall
            simp only [true_iff]
            refine ⟨h0, fun i j hi hj hs => ?_⟩
            obtain ⟨i, rfl⟩ := Int.eq_ofNat_of_zero_le hi.1
            obtain ⟨j, rfl⟩ := Int.eq_ofNat_of_zero_le hj.1
            have hi' : ((i : Nat) : Int) < a.Rows := hi.2
            have hj' : ((j : Nat) : Int) < a.Rows := hj.2
            rcases Nat.lt_trichotomy i j with h1 | h1 | h1
            · exact sym ((sb j i (by omega) (by omega)).1 (hall j i (by rw [n1]; omega) h1 ((sa j i (by omega) (by omega)).2 (sym hs))))
            · subst h1; exact .inl rfl
            · exact (sb i j (by omega) (by omega)).1 (hall i j (by rw [n1]; omega) h1 ((sa i j (by omega) (by omega)).2 hs))
        · rename_i hr
          simp only [Bool.false_eq_true, false_iff]
          exact fun hR => by have := (bothF_ok hR.1).2.2; exact hr this
      · rename_i vb
        simp only [Bool.false_eq_true, false_iff]
        exact fun hR => vb (bothF_ok hR.1).2.1
    · rename_i va
      simp only [Bool.false_eq_true, false_iff]
      exact fun hR => va (bothF_ok hR.1).1)
  exact ⟨r, h2, h1⟩
end drossref08_Refines
namespace drosslaw08_PartitionProduct
theorem again {φ : Bool → Prop} (h : φ true) : L1 φ := L1_step φ ⟨true, drosslaw08_awake.spec, h⟩
theorem small_of_valid {p : api_Partition} (h : validF p = true) : Small p := by
  obtain ⟨h1, h2⟩ := sizes h
  exact ⟨by unfold Big; omega, fun c hc => by have := h2 c hc; unfold Big; omega⟩
theorem prod_small {a b : api_Partition} : Small (prodF a b).1 := by
  by_cases h : bothF a b = 0
  · rw [prodP_eq h]; exact small_of_valid (prodP_valid h)
  · unfold prodF; rw [if_neg h]; exact ⟨by simp [Big], by simp⟩
theorem spec (a b : api_Partition) (ha : Small a) (hb : Small b) : C a b true := by
  obtain ⟨r, h1, h2⟩ := enter a b (fun r => r = true) (by
    refine ⟨true, drosslaw08_awake.spec, ?_⟩
    rw [if_pos rfl]
    refine ⟨_, drossref08_Few.spec ha, ?_⟩
    split
    · refine ⟨_, drossref08_Few.spec hb, ?_⟩
      split
      · obtain ⟨r1, c1, e1⟩ := partition_Refines.spec ha hb
        obtain ⟨r2, c2, e2⟩ := drossref08_Refines.spec ha hb
        refine ⟨_, partition_Product.spec ha hb, _, drossref08_Product.spec ha hb, r1, c1, ?_⟩
        rw [if_pos rfl]
        refine ⟨_, drossref08_Same.spec prod_small, ?_⟩
        rw [if_pos (by simp)]
        refine ⟨r2, c2, ?_⟩
        have e12 : r1 = r2 := by
          rw [Bool.eq_iff_iff, e1, e2]
        rw [if_pos e12]
        split
        · rename_i hz
          have h0 : bothF a b = 0 := by
            apply Classical.byContradiction
            intro hh
            unfold prodF at hz
            rw [if_neg hh] at hz
            exact hh hz
          obtain ⟨va, vb, hr⟩ := bothF_ok h0
          rw [prodP_eq h0]
          have vp := prodP_valid h0
          have rp := prodP_rows h0
          have b1 : bothF (prodP a b) a = 0 := by simp [bothF, vp, va, rp]
          have b2 : bothF (prodP a b) b = 0 := by simp [bothF, vp, vb, rp, hr]
          obtain ⟨r3, c3, e3⟩ := partition_Refines.spec (small_of_valid vp) ha
          obtain ⟨r4, c4, e4⟩ := partition_Refines.spec (small_of_valid vp) hb
          refine ⟨r3, c3, ?_⟩
          rw [if_pos (e3.2 ⟨b1, fun i j hi hj hs => ((prodP_same h0 (by omega) (by omega)).1 hs).1⟩)]
          refine ⟨r4, c4, ?_⟩
          rw [if_pos (e4.2 ⟨b2, fun i j hi hj hs => ((prodP_same h0 (by omega) (by omega)).1 hs).2⟩)]
          refine ⟨_, drossref08_Same.spec ha, ?_⟩
          have key : RefP a b ↔ a = prodP a b := by
            constructor
            · intro hR
              refine CP_eq rp.symm (valid_iff.1 va).2.2 (valid_iff.1 vp).2.2 fun i j hi hj => ?_
              rw [prodP_same h0 hi hj]
              exact ⟨fun h => ⟨h, hR.2 i j hi hj h⟩, fun h => h.1⟩
            · intro he
              refine ⟨h0, fun i j hi hj hs => ?_⟩
              rw [he] at hs
              exact ((prodP_same h0 hi hj).1 hs).2
          rw [beq_iff_eq, Bool.eq_iff_iff, e1, key]
          simp
        · rfl
      · exact again rfl
    · exact again rfl)
  subst h1; exact h2
theorem law {xs : List D} (hx : TyAll env.P 4 [31, 31] xs) : Ret env 9 xs (.lit (.bool true)) [] :=
  drosslaw08_PartitionProduct_of (fun x0 x1 h0 h1 => spec x0 x1 (Small_of_ok ⟨h0.2.1, fun c hc => (h0.2.2 c hc).1⟩) (Small_of_ok ⟨h1.2.1, fun c hc => (h1.2.2 c hc).1⟩)) hx
end drosslaw08_PartitionProduct
end Go.Own
