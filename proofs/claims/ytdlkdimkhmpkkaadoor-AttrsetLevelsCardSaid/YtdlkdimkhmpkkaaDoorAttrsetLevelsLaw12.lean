/- What the functions that the law reaches answer. No conditions. -/
import Derived.Test.YtdlkdimkhmpkkaaDoorAttrsetLevelsLaw10
import Derived.Test.YtdlkdimkhmpkkaaDoorAttrsetLevelsLaw11
import Derived.Test.YtdlkdimkhmpkkaaDoorAttrsetLevelsLaw7
import Derived.Test.YtdlkdimkhmpkkaaDoorAttrsetLevelsLaw4
import Derived.Test.YtdlkdimkhmpkkaaDoorAttrsetLevelsLaw1
import Derived.Test.YtdlkdimkhmpkkaaDoorAttrsetLevelsLaw3
set_option linter.all false

namespace Go.Own
def ltS (x y : Int) : Bool := decide (keyS x < keyS y)
theorem ltS_swo : Go.Sort.SWO ltS where
  irrefl := fun x => by unfold ltS; simp
  trans := fun x y z h1 h2 => by unfold ltS at *; simp only [decide_eq_true_eq] at *; omega
  ntrans := fun x y z h1 h2 => by unfold ltS at *; simp only [decide_eq_false_iff_not] at *; omega
def cmpI (x y : Int) : Int := if x < y then -1 else if y < x then 1 else 0
theorem cmp_Compare_int.spec {x y : Int} : cmp_Compare_int.C x y (cmpI x y) := by
  obtain ⟨f1, g1, k1⟩ := cmp_isNaN_int.enter x (fun r => r = false) (by simp)
  obtain ⟨f2, g2, k2⟩ := cmp_isNaN_int.enter y (fun r => r = false) (by simp)
  subst g1 g2
  obtain ⟨r, h1, h2⟩ := cmp_Compare_int.enter x y (fun r => r = cmpI x y) (by
    refine ⟨_, k1, _, k2, ?_⟩
    rw [if_neg (by decide), if_neg (by decide)]
    unfold cmpI
    split
    · rfl
    · split <;> rfl)
  rw [← h1]; exact h2
theorem cmp_Compare_api_Set.spec {x y : Int} : cmp_Compare_api_Set.C x y (cmpI x y) := by
  obtain ⟨f1, g1, k1⟩ := cmp_isNaN_api_Set.enter x (fun r => r = false) (by simp)
  obtain ⟨f2, g2, k2⟩ := cmp_isNaN_api_Set.enter y (fun r => r = false) (by simp)
  subst g1 g2
  obtain ⟨r, h1, h2⟩ := cmp_Compare_api_Set.enter x y (fun r => r = cmpI x y) (by
    refine ⟨_, k1, _, k2, ?_⟩
    rw [if_neg (by decide), if_neg (by decide)]
    unfold cmpI
    split
    · rfl
    · split <;> rfl)
  rw [← h1]; exact h2
theorem cmp_Or_int.two {a b : Int} : cmp_Or_int.C [a, b] (if a = 0 then b else a) := by
  obtain ⟨r, h1, h2⟩ := cmp_Or_int.enter [a, b] (fun r => r = if a = 0 then b else a) (by
    apply cmp_Or_int.L1_step
    rw [if_pos (by simp)]
    refine ⟨a, rfl, ?_⟩
    by_cases ha : a = 0
    · rw [if_pos ha]
      apply cmp_Or_int.L1_step
      have e : IntKind.wrap .i64 ((0 : Int) + 1) = 1 := by decide
      rw [e, if_pos (by simp)]
      refine ⟨b, rfl, ?_⟩
      by_cases hb : b = 0
      · rw [if_pos hb]
        apply cmp_Or_int.L1_step
        have e : IntKind.wrap .i64 ((1 : Int) + 1) = 2 := by decide
        rw [e, if_neg (by simp), if_pos ha, hb]
      · rw [if_neg hb, if_pos ha]
    · rw [if_neg ha, if_neg ha])
  rw [← h1]; exact h2
theorem cmpS_ok : CmpOK U32 ltS attrset_compare.C := fun x y hx hy => by
  obtain ⟨r, h1, h2⟩ := attrset_compare.enter x y (fun r => r < 0 ↔ ltS x y = true) (by
    refine ⟨_, attrset_Size.spec hx, _, attrset_Size.spec hy, _, cmp_Compare_int.spec, _, cmp_Compare_api_Set.spec, _, cmp_Or_int.two, ?_⟩
    unfold ltS
    rw [decide_eq_true_eq, keyS_lt hx hy]
    have ex := hx.eq
    have ey := hy.eq
    unfold cmpI
    generalize szN (sN x) = s at *
    generalize szN (sN y) = t at *
    by_cases h1 : (s : Int) < t
    · rw [if_pos h1, if_neg (by decide)]; omega
    · rw [if_neg h1]
      by_cases h2 : (t : Int) < s
      · rw [if_pos h2, if_neg (by decide)]; omega
      · rw [if_neg h2, if_pos rfl]
        split
        · omega
        · split <;> omega)
  exact ⟨r, h2, h1⟩
end Go.Own

namespace Go.Own
theorem compactL_snoc : ∀ (l : List Int) (a b : Int), compactL (l ++ [a] ++ [b]) = if a = b then compactL (l ++ [a]) else compactL (l ++ [a]) ++ [b]
  | [], a, b => by
    simp only [List.nil_append, List.singleton_append, compactL]
    split <;> simp_all
  | [c], a, b => by
    simp only [List.singleton_append, List.cons_append, List.nil_append, compactL]
    split <;> split <;> simp_all
  | c :: d :: r, a, b => by
    have ih := compactL_snoc (d :: r) a b
    simp only [List.cons_append, compactL] at ih ⊢
    rw [ih]
    split <;> split <;> simp
theorem take_snoc {l : List Int} {m : Nat} {a : Int} (h : l[m]? = some a) : l.take (m + 1) = l.take m ++ [a] := by
  rw [List.take_add_one, h]; rfl
theorem compact_step {l : List Int} {m : Nat} {a b : Int} (ha : l[m]? = some a) (hb : l[m + 1]? = some b) : compactL (l.take (m + 2)) = if a = b then compactL (l.take (m + 1)) else compactL (l.take (m + 1)) ++ [b] := by
  have e1 : l.take (m + 2) = l.take m ++ [a] ++ [b] := by rw [take_snoc (m := m + 1) hb, take_snoc ha]
  rw [e1, take_snoc ha, compactL_snoc]
namespace slices_Compact_sapi_Set_api_Set
theorem inner {l : List Int} {o : Nat} {φ : List Int × Bool → Prop} (ho : 1 ≤ o) (hol : o < l.length) (hl : l.length < 4611686018427387904) (h : ∀ b, φ (compactL l, b)) (n : Nat) : ∀ (s : List Int) (k k2 : Nat), l.length - o - k2 ≤ n → 1 ≤ k2 → o + k2 ≤ l.length → s.length = l.length → k ≤ o + k2 - 1 → s.take k = compactL (l.take (o + k2)) → (∀ i, o + k2 - 1 ≤ i → s[i]? = l[i]?) → L2 s k o (l.length - o) k2 φ := by
  have hend : ∀ (s : List Int) (k k2 : Nat), o + k2 = l.length → s.length = l.length → k ≤ o + k2 - 1 → s.take k = compactL (l.take (o + k2)) → L2 s k o (l.length - o) k2 φ := fun s k k2 hk2 hs hk ht => by
    apply L2_step
    refine ⟨by omega, ?_⟩
    rw [if_neg (by rw [List.length_take, List.length_drop]; omega)]
    refine ⟨by omega, ⟨by omega, by omega⟩, by omega, by omega, by omega, by omega, ⟨by omega, by omega, by omega⟩, ?_⟩
    rw [Int.toNat_natCast]
    have e : s.take k = compactL l := by rw [ht, List.take_of_length_le (by omega)]
    rw [e]
    exact h _
  induction n with
  | zero => intro s k k2 hn h1 hk2 hs hk ht hd; exact hend s k k2 (by omega) hs hk ht
  | succ n ih =>
    intro s k k2 hn h1 hk2 hs hk ht hd
    by_cases hlt : o + k2 < l.length
    · apply L2_step
      refine ⟨by omega, ?_⟩
      rw [if_pos (by rw [List.length_take, List.length_drop]; omega)]
      obtain ⟨b, hb⟩ : ∃ b, l[o + k2]? = some b := ⟨_, List.getElem?_eq_getElem hlt⟩
      obtain ⟨a, ha⟩ : ∃ a, l[o + k2 - 1]? = some a := ⟨_, List.getElem?_eq_getElem (by omega)⟩
      have e1 : (o : Int) + (k2 : Int) = ((o + k2 : Nat) : Int) := by omega
      have e2 : IntKind.wrap .i64 ((k2 : Int) - 1) = ((k2 - 1 : Nat) : Int) := wx _ _ (by omega) (by omega)
      have e3 : (o : Int) + ((k2 - 1 : Nat) : Int) = ((o + k2 - 1 : Nat) : Int) := by omega
      have e4 : IntKind.wrap .i64 ((k2 : Int) + 1) = ((k2 + 1 : Nat) : Int) := wx _ _ (by omega) (by omega)
      have e5 : IntKind.wrap .i64 ((k : Int) + 1) = ((k + 1 : Nat) : Int) := wx _ _ (by omega) (by omega)
      rw [e1, e2, e3]
      have hstep := compact_step (l := l) (m := o + k2 - 1) ha (by rw [show o + k2 - 1 + 1 = o + k2 by omega]; exact hb)
      rw [show o + k2 - 1 + 2 = o + (k2 + 1) by omega, show o + k2 - 1 + 1 = o + k2 by omega] at hstep
      refine ⟨b, by rw [lget_nat, hd _ (by omega)]; exact hb, ⟨by omega, by omega⟩, by omega, a, by rw [lget_nat, hd _ (by omega)]; exact ha, ⟨by omega, by omega⟩, by omega, ?_⟩
      by_cases hab : b = a
      · rw [if_pos hab]
        apply L3_step
        rw [e4]
        rw [if_pos hab.symm] at hstep
        exact ih s k (k2 + 1) (by omega) (by omega) (by omega) hs (by omega) (by rw [ht, hstep]) (fun i hi => hd i (by omega))
      · rw [if_neg hab]
        rw [if_neg (fun h => hab h.symm)] at hstep
        obtain ⟨c, hc⟩ : ∃ c, s[k]? = some c := ⟨_, List.getElem?_eq_getElem (by omega)⟩
        refine ⟨⟨by omega, by omega⟩, by omega, c, by rw [lget_nat]; exact hc, ?_⟩
        apply L3_step
        rw [e4, e5]
        have hls : lset s (k : Int) b = s.set k b := by unfold lset; rw [Int.toNat_natCast]
        rw [hls]
        refine ih (s.set k b) (k + 1) (k2 + 1) (by omega) (by omega) (by omega) (by rw [List.length_set]; exact hs) (by omega) ?_ (fun i hi => ?_)
        · rw [hstep, ← ht, take_snoc (a := b) (by rw [List.getElem?_set_self (by omega)])]
          congr 1
          rw [List.take_set_of_le (Nat.le_refl k)]
        · rw [List.getElem?_set_ne (by omega)]
          exact hd i (by omega)
    · exact hend s k k2 (by omega) hs hk ht
theorem outer {l : List Int} {φ : List Int × Bool → Prop} (hl : l.length < 4611686018427387904) (h : ∀ b, φ (compactL l, b)) (n : Nat) : ∀ i, l.length - i ≤ n → 1 ≤ i → i ≤ l.length → compactL (l.take i) = l.take i → L1 l i φ := by
  induction n with
  | zero =>
    intro i hn h1 hi hc
    apply L1_step
    rw [if_neg (by omega)]
    have e : i = l.length := by omega
    rw [e, List.take_length] at hc
    have := h true
    rwa [hc] at this
  | succ n ih =>
    intro i hn h1 hi hc
    by_cases hlt : i < l.length
    · apply L1_step
      rw [if_pos (by omega)]
      obtain ⟨b, hb⟩ : ∃ b, l[i]? = some b := ⟨_, List.getElem?_eq_getElem hlt⟩
      obtain ⟨a, ha⟩ : ∃ a, l[i - 1]? = some a := ⟨_, List.getElem?_eq_getElem (by omega)⟩
      have e2 : IntKind.wrap .i64 ((i : Int) - 1) = ((i - 1 : Nat) : Int) := wx _ _ (by omega) (by omega)
      have e4 : IntKind.wrap .i64 ((i : Int) + 1) = ((i + 1 : Nat) : Int) := wx _ _ (by omega) (by omega)
      rw [e2, e4]
      have hstep := compact_step (l := l) (m := i - 1) ha (by rw [show i - 1 + 1 = i by omega]; exact hb)
      rw [show i - 1 + 2 = i + 1 by omega, show i - 1 + 1 = i by omega] at hstep
      refine ⟨b, by rw [lget_nat]; exact hb, a, by rw [lget_nat]; exact ha, ?_⟩
      by_cases hab : b = a
      · rw [if_pos hab]
        rw [if_pos hab.symm] at hstep
        refine ⟨by omega, ⟨by omega, by omega⟩, ?_⟩
        rw [Int.toNat_natCast]
        exact inner (o := i) h1 hlt hl h (l.length - i - 1) l i 1 (Nat.le_refl _) (Nat.le_refl _) (by omega) rfl (by omega) (by rw [hstep, hc]) (fun _ _ => rfl)
      · rw [if_neg hab]
        rw [if_neg (fun h => hab h.symm)] at hstep
        exact ih (i + 1) (by omega) (by omega) (by omega) (by rw [hstep, hc, take_snoc hb])
    · apply L1_step
      rw [if_neg (by omega)]
      have e : i = l.length := by omega
      rw [e, List.take_length] at hc
      have := h true
      rwa [hc] at this
theorem spec {l : List Int} (hl : l.length < 4611686018427387904) : ∃ b, C l (compactL l, b) := by
  obtain ⟨r, ⟨b, rfl⟩, h2⟩ := enter l (fun r => ∃ b, r = (compactL l, b)) (by
    split
    · rename_i h
      refine ⟨true, ?_⟩
      match l, h with
      | [], _ => rfl
      | [a], _ => rfl
      | _ :: _ :: _, h => simp at h; omega
    · rename_i h
      have : 1 ≤ l.length := by omega
      exact outer hl (fun b => ⟨b, rfl⟩) (l.length - 1) 1 (by omega) (by omega) this (by
        obtain ⟨a, r, rfl⟩ : ∃ a r, l = a :: r := by cases l with
          | nil => simp at this
          | cons a r => exact ⟨a, r, rfl⟩
        rfl))
  exact ⟨b, h2⟩
end slices_Compact_sapi_Set_api_Set
end Go.Own

namespace Go.Own
theorem attrset_Order.spec {l : List Int} (hl : l.length ≤ 35184372088832) (hu : AllU l) : attrset_Order.C l (ordL l) := by
  obtain ⟨r, h1, h2⟩ := attrset_Order.enter l (fun r => r = ordL l) (by
    obtain ⟨s, c, hp, ha⟩ := slices_SortFunc_sapi_Set_api_Set_attrset_compare.spec cmpS_ok ltS_swo (l := l) (by omega) hu
    have hlen := hp.length_eq
    obtain ⟨b, c2⟩ := slices_Compact_sapi_Set_api_Set.spec (l := s) (by omega)
    refine ⟨by omega, s, c, _, c2, ?_⟩
    have hus : AllU s := fun x hx => hu x (hp.mem_iff.1 hx)
    refine ordL_eq hu (compactL_asc hus (ha.imp fun h => ?_)) fun y => by rw [compactL_mem, hp.mem_iff]
    unfold ltS at h
    simp only [decide_eq_false_iff_not] at h
    omega)
  rw [← h1]; exact h2
theorem drossref02_In.spec {l : List Int} {x : Int} (hl : l.length < 9223372036854775807) : drossref02_In.C l x (decide (x ∈ l)) := by
  obtain ⟨r, h1, h2⟩ := drossref02_In.enter l x (fun r => r = decide (x ∈ l)) (by
    have e : decide (x ∈ l) = l.any fun a => a == x := by
      rw [Bool.eq_iff_iff]
      simp
    rw [e]
    refine any_loop (l := l) (p := fun a => a == x) (L := fun i => drossref02_In.L1 l x i _) (φ := fun r => r = l.any fun a => a == x) ?_ ?_ rfl
    · intro h; apply drossref02_In.L1_step; rw [if_neg (by omega)]; exact h
    · intro k a ha hk h
      apply drossref02_In.L1_step
      rw [if_pos (by omega)]
      refine ⟨a, lget_of ha, ?_⟩
      rw [wrap_succ (by omega)]
      by_cases hax : a = x
      · rw [if_pos hax]; rw [if_pos (by simpa using hax)] at h; exact h
      · rw [if_neg hax]; rw [if_neg (by simpa using hax)] at h; exact h)
  rw [← h1]; exact h2
theorem drossref02_Same.spec {l m : List Int} (hl : l.length < 9223372036854775807) : drossref02_Same.C l m (decide (l = m)) := by
  obtain ⟨r, h1, h2⟩ := drossref02_Same.enter l m (fun r => r = decide (l = m)) (by
    by_cases hlm : l.length = m.length
    · rw [if_pos (by omega)]
      have : ∀ (n k : Nat), l.length - k ≤ n → k ≤ l.length → l.take k = m.take k → drossref02_Same.L1 l m k (fun r => r = decide (l = m)) := by
        intro n
        induction n with
        | zero =>
          intro k hn hk ht
          apply drossref02_Same.L1_step
          rw [if_neg (by omega)]
          have e : k = l.length := by omega
          rw [e, List.take_length, hlm, List.take_length] at ht
          simp [ht]
        | succ n ih =>
          intro k hn hk ht
          by_cases hlt : k < l.length
          · apply drossref02_Same.L1_step
            rw [if_pos (by omega)]
            have ha : l[k]? = some l[k] := List.getElem?_eq_getElem hlt
            have hb : m[k]? = some m[k] := List.getElem?_eq_getElem (by omega)
            refine ⟨_, lget_of ha, _, lget_of hb, ?_⟩
            rw [wrap_succ (by omega)]
            by_cases hab : l[k] = m[k]
            · rw [if_pos hab]
              exact ih (k + 1) (by omega) (by omega) (by rw [take_snoc ha, take_snoc hb, ht, hab])
            · rw [if_neg hab]
              have : ¬ l = m := fun h => by subst h; exact hab rfl
              simp [this]
          · apply drossref02_Same.L1_step
            rw [if_neg (by omega)]
            have e : k = l.length := by omega
            rw [e, List.take_length, hlm, List.take_length] at ht
            simp [ht]
      exact this l.length 0 (by omega) (by omega) (by simp)
    · rw [if_neg (by omega)]
      have : ¬ l = m := fun h => hlm (by rw [h])
      simp [this])
  rw [← h1]; exact h2
theorem drossref02_Members.spec {n : Nat} (hn : n < 2 ^ 32) : drossref02_Members.C n ((bitsOf n).map fun (i : Nat) => (i : Int)) := by
  obtain ⟨r, h1, h2⟩ := drossref02_Members.enter n (fun r => r = (bitsOf n).map fun (i : Nat) => (i : Int)) (by
    have : ∀ (m k : Nat), 32 - k ≤ m → k ≤ 32 → drossref02_Members.L1 n (((List.range k).filter fun i => n.testBit i).map fun (i : Nat) => (i : Int)) k (fun r => r = (bitsOf n).map fun (i : Nat) => (i : Int)) := by
      intro m
      induction m with
      | zero =>
        intro k hm hk
        apply drossref02_Members.L1_step
        rw [if_neg (by omega)]
        have e : k = 32 := by omega
        subst e; rfl
      | succ m ih =>
        intro k hm hk
        apply drossref02_Members.L1_step
        by_cases hlt : k < 32
        · rw [if_pos (by omega)]
          refine ⟨_, drossref02_Has.spec hn, ?_⟩
          have hlen : (((List.range k).filter fun i => n.testBit i).map fun (i : Nat) => (i : Int)).length ≤ 32 := by
            rw [List.length_map]
            exact Nat.le_trans (List.length_filter_le _ _) (by simp; omega)
          have := ih (k + 1) (by omega) (by omega)
          rw [List.range_succ, List.filter_append, List.map_append] at this
          by_cases hb : n.testBit k = true
          · rw [if_pos hb]
            refine ⟨by omega, ?_⟩
            apply drossref02_Members.L2_step
            rw [wrap_succ (by omega)]
            simpa [hb] using this
          · rw [if_neg hb]
            apply drossref02_Members.L2_step
            rw [wrap_succ (by omega)]
            simpa [hb] using this
        · rw [if_neg (by omega)]
          have e : k = 32 := by omega
          subst e; rfl
    exact this 32 0 (by omega) (by omega))
  rw [← h1]; exact h2
theorem drossref02_Size.spec {x : Int} (hx : U32 x) : drossref02_Size.C x (szN (sN x) : Int) := by
  have := drossref02_Members.spec hx.lt
  rw [← hx.eq] at this
  obtain ⟨r, h1, h2⟩ := drossref02_Size.enter x (fun r => r = (szN (sN x) : Int)) ⟨_, this, by rw [List.length_map]; rfl⟩
  rw [← h1]; exact h2
theorem drossref02_Before.spec {x y : Int} (hx : U32 x) (hy : U32 y) : drossref02_Before.C x y (ltS x y) := by
  obtain ⟨r, h1, h2⟩ := drossref02_Before.enter x y (fun r => r = ltS x y) (by
    refine ⟨_, drossref02_Size.spec hx, _, drossref02_Size.spec hy, ?_⟩
    have ex := hx.eq
    have ey := hy.eq
    have hk := keyS_lt hx hy
    unfold ltS
    split
    · rename_i h
      rw [decide_eq_decide, hk]
      omega
    · rename_i h
      refine ⟨_, drossref02_Size.spec hx, _, drossref02_Size.spec hy, ?_⟩
      rw [decide_eq_decide, hk]
      omega)
  rw [← h1]; exact h2
theorem set_swap {p q : List Int} {b x : Int} : lset (lset (p ++ [b] ++ x :: q) ((p.length + 1 : Nat) : Int) b) ((p.length : Nat) : Int) x = p ++ x :: b :: q := by
  unfold lset
  rw [Int.toNat_natCast, Int.toNat_natCast, List.append_assoc, List.singleton_append]
  induction p with
  | nil => rfl
  | cons a p ih =>
    simp only [List.cons_append, List.length_cons, List.set_cons_succ]
    exact congrArg _ ih
theorem drossref02_Order.place {l : List Int} {x : Int} {i : Nat} {φ : List Int → Prop} (hx : U32 x) {out : List Int} (hu : AllU out) (ha : Asc out) (hn : x ∉ out) (hl : out.length < 9223372036854775800) (h : drossref02_Order.L3 l (insS x out) i φ) : ∀ (n : Nat) (p q : List Int), p.length = n → p ++ q = out → (∀ y ∈ q, keyS x < keyS y) → drossref02_Order.L2 l (p ++ x :: q) i n φ := by
  have fin : ∀ p q : List Int, p ++ q = out → (∀ y ∈ q, keyS x < keyS y) → (∀ y ∈ p, keyS y < keyS x) → insS x out = p ++ x :: q := fun p q hpq hq hp => by
    refine asc_ext keyS (insS_asc hx hu ha) ?_ fun y => ?_
    · subst hpq
      have ha : List.Pairwise (fun a b => keyS a < keyS b) (p ++ q) := ha
      rw [List.pairwise_append] at ha ⊢
      refine ⟨ha.1, List.pairwise_cons.2 ⟨hq, ha.2.1⟩, fun a h1 b h2 => ?_⟩
      rcases List.mem_cons.1 h2 with rfl | h2
      · exact hp a h1
      · exact ha.2.2 a h1 b h2
    · rw [insS_mem hx hu, ← hpq, List.mem_append, List.mem_append, List.mem_cons]
      constructor
      · rintro (h | h | h) <;> simp [h]
      · rintro (h | h | h) <;> simp [h]
  intro n
  induction n with
  | zero =>
    intro p q hp hpq hq
    apply drossref02_Order.L2_step
    rw [if_neg (by omega)]
    have := fin p q hpq hq (by have := List.eq_nil_of_length_eq_zero hp; subst this; simp)
    rwa [this] at h
  | succ n ih =>
    intro p q hp hpq hq
    apply drossref02_Order.L2_step
    rw [if_pos (by omega)]
    obtain ⟨p', b, rfl⟩ : ∃ p' b, p = p' ++ [b] := by
      have : p ≠ [] := fun h => by subst h; simp at hp
      exact ⟨p.dropLast, p.getLast this, (List.dropLast_concat_getLast this).symm⟩
    have hp' : p'.length = n := by simpa using hp
    have hlen : p'.length + 1 + q.length = out.length := by rw [← hpq]; simp; omega
    have hub : U32 b := hu b (by rw [← hpq]; simp)
    have e1 : IntKind.wrap .i64 (((n + 1 : Nat) : Int) - 1) = (n : Int) := wx _ _ (by omega) (by omega)
    rw [e1]
    refine ⟨x, ?_, b, ?_, _, drossref02_Before.spec hx hub, ?_⟩
    · rw [lget_nat, List.getElem?_append_right (by simp; omega)]
      simp [hp']
    · rw [lget_nat, List.getElem?_append_left (by simp; omega), List.getElem?_append_right (by omega)]
      simp [hp']
    · by_cases hlt : ltS x b = true
      · rw [if_pos hlt]
        have hltk : keyS x < keyS b := by simpa [ltS] using hlt
        obtain ⟨z, hz⟩ : ∃ z, lget (lset (p' ++ [b] ++ x :: q) ((n + 1 : Nat) : Int) b) (n : Int) = some z := lget_lt (by omega) (by rw [lset_length]; simp; omega)
        refine ⟨z, hz, ?_⟩
        have hsw := set_swap (p := p') (q := q) (b := b) (x := x)
        rw [hp'] at hsw
        rw [hsw]
        refine ih p' (b :: q) hp' (by rw [← hpq]; simp) fun y hy => ?_
        rcases List.mem_cons.1 hy with rfl | hy
        · exact hltk
        · exact hq y hy
      · rw [if_neg hlt]
        have hnlt : ¬ keyS x < keyS b := by simpa [ltS] using hlt
        have hne : keyS x ≠ keyS b := fun he => by
          have := keyS_inj hx hub he
          subst this
          exact hn (by rw [← hpq]; simp)
        have := fin (p' ++ [b]) q hpq hq (fun y hy => by
          rcases List.mem_append.1 hy with hy | hy
          · have hao : Asc (p' ++ [b]) := (List.pairwise_append.1 (hpq ▸ ha)).1
            have := (List.pairwise_append.1 hao).2.2 y hy b (by simp)
            omega
          · obtain rfl := List.mem_singleton.1 hy
            omega)
        rwa [this] at h
theorem drossref02_Order.spec {l : List Int} (hl : l.length ≤ 35184372088832) (hu : AllU l) : drossref02_Order.C l (ordL l) := by
  obtain ⟨r, h1, h2⟩ := drossref02_Order.enter l (fun r => r = ordL l) (by
    have := fold_loop (l := l) (f := fun acc x => insS x acc) (Inv := fun k s => AllU s ∧ Asc s ∧ s.length ≤ k) (L := fun s i => drossref02_Order.L1 l s i (fun r => r = ordL l)) (K := fun s => s = ordL l) (s := [])
      (fun s hi hk => by apply drossref02_Order.L1_step; rw [if_neg (by omega)]; exact hk)
      (fun k a s ha hk hi => by
        obtain ⟨i1, i2, i3⟩ := hi
        have hua := hu a (List.mem_of_getElem? ha)
        have hlen : (insS a s).length ≤ s.length + 1 := by
          clear i1 i2 i3
          induction s with
          | nil => simp [insS]
          | cons b m ih2 =>
            simp only [insS]
            split
            · simp
            · split
              · simp
              · simp only [List.length_cons]; omega
        refine ⟨⟨fun y hy => ?_, insS_asc hua i1 i2, by omega⟩, fun hL => ?_⟩
        · rcases (insS_mem hua i1 y).1 hy with rfl | hy
          · exact hua
          · exact i1 y hy
        · apply drossref02_Order.L1_step
          rw [if_pos (by omega)]
          refine ⟨a, lget_of ha, _, drossref02_In.spec (by omega), ?_⟩
          have l3 : drossref02_Order.L3 l (insS a s) k (fun r => r = ordL l) := by
            apply drossref02_Order.L3_step
            rw [wrap_succ (by omega)]
            exact hL
          by_cases hin : a ∈ s
          · rw [if_pos (by simpa using hin)]
            have e : insS a s = s := asc_ext keyS (insS_asc hua i1 i2) i2 fun y => by
              rw [insS_mem hua i1]
              constructor
              · rintro (rfl | h); exact hin; exact h
              · exact .inr
            rwa [e] at l3
          · rw [if_neg (by simpa using hin)]
            refine ⟨by omega, ?_⟩
            have e1 : IntKind.wrap .i64 (((s ++ [a]).length : Int) - 1) = (s.length : Int) := wx _ _ (by simp) (by omega)
            rw [e1]
            exact drossref02_Order.place hua i1 i2 hin (by omega) l3 s.length s [] rfl (by simp) (by simp))
      ⟨fun _ h => (by cases h), List.Pairwise.nil, by simp⟩ rfl
    exact this)
  rw [← h1]; exact h2
end Go.Own

namespace Go.Own
def subL (s : Nat) : List Int := (bsL 32 s).map fun (n : Nat) => (n : Int)
theorem subL_mem {s : Nat} (hs : s < 2 ^ 32) {y : Int} : y ∈ subL s ↔ ∃ n : Nat, y = n ∧ n &&& s = n := by
  unfold subL
  rw [List.mem_map]
  constructor
  · rintro ⟨n, hn, rfl⟩; exact ⟨n, rfl, (bsL_mem hs n).1 hn⟩
  · rintro ⟨n, rfl, hn⟩; exact ⟨n, (bsL_mem hs n).2 hn, rfl⟩
theorem subL_all {s : Nat} (hs : s < 2 ^ 32) : AllU (subL s) := fun y hy => by
  obtain ⟨n, rfl, hn⟩ := (subL_mem hs).1 hy
  have := sub_le hn
  exact U32.of (by omega)
def subsF (s : Nat) : List Int := if 12 < szN s then [] else ordL (subL s)
theorem keyS_lt_big {x : Int} (hx : U32 x) : keyS x < 33 * 4294967296 := by
  have h1 := hx.lt
  have h2 := szN_le (n := sN x)
  unfold keyS; omega
theorem asc_small {l : List Int} (hu : AllU l) (ha : Asc l) : l.length ≤ 33 * 4294967296 := asc_len keyS ha fun x hx => keyS_lt_big (hu x hx)
theorem subsF_len {s : Nat} (hs : s < 2 ^ 32) : (subsF s).length ≤ 33 * 4294967296 := by
  unfold subsF
  split
  · simp
  · exact asc_small (ordL_all (subL_all hs)) (ordL_asc (subL_all hs))
theorem ordL_nodup_len {l : List Int} (hu : AllU l) (hn : l.Nodup) : (ordL l).length = l.length := by
  have h1 : (ordL l).Nodup := (ordL_asc hu).imp fun {a b} h => fun e => by subst e; omega
  exact ((List.perm_ext_iff_of_nodup h1 hn).2 fun y => ordL_mem hu y).length_eq
theorem subs_count {s : Nat} (hs : s < 2 ^ 32) : (ordL (subL s)).length = 2 ^ szN s := by
  rw [ordL_nodup_len (subL_all hs)]
  · unfold subL
    rw [List.length_map, bsL_len]; rfl
  · unfold subL
    have h1 : (bsL 32 s).Nodup := bsL_asc.imp fun {a b} h => by omega
    exact List.Pairwise.map _ (fun a b h => by omega) h1
theorem attrset_Subsets.loop {s : Nat} (hs : s < 2 ^ 32) {φ : List Int → Prop} (h : φ (ordL (subL s))) (n : Nat) : ∀ (x : Nat) (out : List Int), x ≤ n → x &&& s = x → out.length + x ≤ s + 1 → (∀ y, y ∈ out ↔ ∃ m : Nat, y = m ∧ m &&& s = m ∧ x ≤ m) → attrset_Subsets.L1 s out x φ := by
  induction n with
  | zero =>
    intro x out hx hsub hl hm
    have : x = 0 := by omega
    subst this
    apply attrset_Subsets.L1_step
    rw [if_pos (by omega)]
    have hmem : ∀ y, y ∈ out ↔ y ∈ subL s := fun y => by
      rw [hm, subL_mem hs]
      constructor
      · rintro ⟨m, a, b, _⟩; exact ⟨m, a, b⟩
      · rintro ⟨m, a, b⟩; exact ⟨m, a, b, Nat.zero_le _⟩
    have hu : AllU out := fun y hy => subL_all hs y ((hmem y).1 hy)
    refine ⟨_, attrset_Order.spec (by omega) hu, ?_⟩
    rw [ordL_congr (subL_all hs) hmem]; exact h
  | succ n ih =>
    intro x out hx hsub hl hm
    by_cases h0 : x = 0
    · exact ih x out (by omega) hsub hl hm
    · apply attrset_Subsets.L1_step
      rw [if_neg (by omega)]
      refine ⟨by omega, ?_⟩
      have hxs := sub_le hsub
      have e1 : IntKind.wrap .u32 ((x : Int) - 1) = ((x - 1 : Nat) : Int) := by
        rw [show (x : Int) - 1 = ((x - 1 : Nat) : Int) by omega]
        exact wrap_top (k := .u32) (by simp only [top]; omega)
      rw [e1, bAnd_nat (k := .u32) (by simp only [top]; omega) (by simpa [top] using hs)]
      have hp : (x - 1) &&& s ≤ x - 1 := Nat.and_le_left
      refine ih _ _ (by omega) (by rw [Nat.and_assoc, Nat.and_self]) (by rw [List.length_append, List.length_singleton]; omega) fun y => ?_
      rw [List.mem_append, hm, List.mem_singleton]
      constructor
      · rintro (⟨m, a, b, c⟩ | rfl)
        · exact ⟨m, a, b, by omega⟩
        · exact ⟨_, rfl, by rw [Nat.and_assoc, Nat.and_self], Nat.le_refl _⟩
      · rintro ⟨m, rfl, b, c⟩
        rcases Nat.lt_or_ge m x with h1 | h1
        · right
          have := pred_sub x s m hsub (by omega) b h1
          have : m = (x - 1) &&& s := by omega
          rw [this]
        · exact .inl ⟨m, rfl, b, h1⟩
theorem attrset_Subsets.spec {s : Nat} (hs : s < 2 ^ 32) : attrset_Subsets.C s (subsF s) := by
  obtain ⟨r, h1, h2⟩ := attrset_Subsets.enter s (fun r => r = subsF s) (by
    have hz := attrset_Size.spec (x := (s : Int)) (U32.of hs)
    rw [sN_nat] at hz
    refine ⟨_, hz, ?_⟩
    unfold subsF
    by_cases h12 : 12 < szN s
    · rw [if_pos (by omega), if_pos h12]
    · rw [if_neg (by omega), if_neg h12]
      refine attrset_Subsets.loop (φ := fun r => r = ordL (subL s)) hs (Eq.refl _) s s [(s : Int)] (Nat.le_refl s) (Nat.and_self s) (by rw [List.length_singleton]; omega) fun y => ?_
      rw [List.mem_singleton]
      constructor
      · rintro rfl; exact ⟨s, rfl, Nat.and_self s, Nat.le_refl _⟩
      · rintro ⟨m, rfl, b, c⟩
        have := sub_le b
        have : m = s := by omega
        rw [this])
  rw [← h1]; exact h2
theorem wrap64_id {n : Nat} (h : n < 2 ^ 64) : IntKind.wrap .u64 (n : Int) = n := wrap_top (k := .u64) (by simpa [top] using h)
theorem drossref02_next.spec {x s : Nat} (hs : s < 2 ^ 32) (hx : x ≤ s) : drossref02_next.C x s ((if x = s then s + 1 else nxt x s : Nat) : Int) := by
  obtain ⟨r, h1, h2⟩ := drossref02_next.enter x s (fun r => r = ((if x = s then s + 1 else nxt x s : Nat) : Int)) (by
    by_cases h : x = s
    · rw [if_pos (by omega), if_pos h]
      rw [show (s : Int) + 1 = ((s + 1 : Nat) : Int) by omega]
      exact wrap64_id (by omega)
    · rw [if_neg (by omega), if_neg h]
      have e : IntKind.wrap .u64 ((x : Int) - (s : Int)) = ((2 ^ 64 + x - s : Nat) : Int) := by
        rw [show (IntKind.wrap .u64 ((x : Int) - (s : Int))) = ((x : Int) - (s : Int)) % 18446744073709551616 from by simp [IntKind.wrap, IntKind.bits, IntKind.signed]]
        omega
      rw [e, bAnd_nat (k := .u64) (by simp only [top]; omega) (by simp only [top]; omega)]
      rfl)
  rw [← h1]; exact h2
def Gath (s k x : Nat) (out : List Int) : Prop := Asc out ∧ ∀ y, y ∈ out ↔ ∃ m : Nat, y = m ∧ m &&& s = m ∧ (szN m < k ∨ szN m = k ∧ m < x)
theorem Gath.all {s k x : Nat} {out : List Int} (hs : s < 2 ^ 32) (h : Gath s k x out) : AllU out := fun y hy => by
  obtain ⟨m, rfl, hm, _⟩ := (h.2 y).1 hy
  have := sub_le hm
  exact U32.of (by omega)
theorem drossref02_Subsets.inner {s k : Nat} (hs : s < 2 ^ 32) (hk : k ≤ 32) {φ : List Int → Prop} (h : ∀ out, Gath s (k + 1) 0 out → drossref02_Subsets.L1 s out ((k + 1 : Nat) : Int) φ) (n : Nat) : ∀ (x : Nat) (out : List Int), s + 1 - x ≤ n → (x &&& s = x ∨ x = s + 1) → Gath s k x out → drossref02_Subsets.L2 s out k x φ := by
  have fin : ∀ (out : List Int), Gath s k (s + 1) out → drossref02_Subsets.L2 s out k ((s + 1 : Nat) : Int) φ := fun out hg => by
    apply drossref02_Subsets.L2_step
    rw [wrap64_id (by omega), if_neg (by omega)]
    rw [wrap_succ (by omega)]
    refine h out ⟨hg.1, fun y => ?_⟩
    rw [hg.2]
    constructor
    · rintro ⟨m, a, b, c⟩; exact ⟨m, a, b, by omega⟩
    · rintro ⟨m, a, b, c⟩; have := sub_le b; exact ⟨m, a, b, by omega⟩
  induction n with
  | zero =>
    intro x out hn hx hg
    rcases hx with hx | hx
    · have := sub_le hx; omega
    · subst hx; exact fin out hg
  | succ n ih =>
    intro x out hn hx hg
    rcases hx with hx | hx
    · have hle := sub_le hx
      have hu := hg.all hs
      have hlen := asc_small hu hg.1
      apply drossref02_Subsets.L2_step
      rw [wrap64_id (by omega), if_pos (by omega)]
      have e1 : IntKind.wrap .u32 (x : Int) = x := wrap_top (k := .u32) (by simp only [top]; omega)
      rw [e1]
      have hz := drossref02_Size.spec (x := (x : Int)) (U32.of (by omega))
      rw [sN_nat] at hz
      refine ⟨_, hz, ?_⟩
      have go : ∀ out', Gath s k (if x = s then s + 1 else nxt x s) out' → drossref02_Subsets.L3 s out' k x φ := fun out' hg' => by
        apply drossref02_Subsets.L3_step
        rw [wrap64_id (by omega)]
        refine ⟨_, drossref02_next.spec hs hle, ?_⟩
        by_cases hxs : x = s
        · rw [if_pos hxs] at hg' ⊢; exact fin out' hg'
        · rw [if_neg hxs] at hg' ⊢
          obtain ⟨n1, n2, n3⟩ := nxt_spec hs hx (by omega)
          exact ih _ out' (by omega) (.inl n1) hg'
      have step : ∀ m : Nat, m &&& s = m → (m < (if x = s then s + 1 else nxt x s) ↔ m < x ∨ m = x) := fun m hm => by
        have hms := sub_le hm
        by_cases hxs : x = s
        · rw [if_pos hxs]; omega
        · rw [if_neg hxs]
          obtain ⟨n1, n2, n3⟩ := nxt_spec hs hx (by omega)
          constructor
          · intro h1
            rcases Nat.lt_trichotomy m x with h2 | h2 | h2
            · exact .inl h2
            · exact .inr h2
            · have := n3 m hm h2; omega
          · rintro (h1 | h1) <;> omega
      by_cases hsz : szN x = k
      · rw [if_pos (by omega)]
        refine ⟨by omega, go _ ⟨?_, fun y => ?_⟩⟩
        · refine List.pairwise_append.2 ⟨hg.1, by simp, fun a ha b hb => ?_⟩
          obtain rfl := List.mem_singleton.1 hb
          obtain ⟨m, rfl, hm, hc⟩ := (hg.2 a).1 ha
          have hms := sub_le hm
          rw [keyS_lt (U32.of (by omega)) (U32.of (by omega)), sN_nat, sN_nat]
          omega
        · rw [List.mem_append, hg.2, List.mem_singleton]
          constructor
          · rintro (⟨m, a, b, c⟩ | rfl)
            · refine ⟨m, a, b, ?_⟩
              rcases c with c | ⟨c1, c2⟩
              · exact .inl c
              · exact .inr ⟨c1, (step m b).2 (.inl c2)⟩
            · exact ⟨x, rfl, hx, .inr ⟨hsz, (step x hx).2 (.inr rfl)⟩⟩
          · rintro ⟨m, rfl, b, c⟩
            rcases c with c | ⟨c1, c2⟩
            · exact .inl ⟨m, rfl, b, .inl c⟩
            · rcases (step m b).1 c2 with h1 | h1
              · exact .inl ⟨m, rfl, b, .inr ⟨c1, h1⟩⟩
              · right; rw [h1]
      · rw [if_neg (by omega)]
        refine go _ ⟨hg.1, fun y => ?_⟩
        rw [hg.2]
        constructor
        · rintro ⟨m, a, b, c⟩
          refine ⟨m, a, b, ?_⟩
          rcases c with c | ⟨c1, c2⟩
          · exact .inl c
          · exact .inr ⟨c1, (step m b).2 (.inl c2)⟩
        · rintro ⟨m, a, b, c⟩
          refine ⟨m, a, b, ?_⟩
          rcases c with c | ⟨c1, c2⟩
          · exact .inl c
          · rcases (step m b).1 c2 with h1 | h1
            · exact .inr ⟨c1, h1⟩
            · subst h1; exact absurd c1 hsz
    · subst hx; exact fin out hg
theorem szN_mono {m s : Nat} (hm : m &&& s = m) : szN m ≤ szN s := by
  unfold szN bitsOf
  refine List.Sublist.length_le ?_
  have e : (List.range 32).filter (fun i => m.testBit i) = ((List.range 32).filter fun i => s.testBit i).filter fun i => m.testBit i := by
    rw [List.filter_filter]
    refine List.filter_congr fun i _ => ?_
    have := congrArg (·.testBit i) hm
    simp only [Nat.testBit_and] at this
    cases h1 : m.testBit i <;> cases h2 : s.testBit i <;> simp_all
  rw [e]
  exact List.filter_sublist
theorem drossref02_Subsets.spec {s : Nat} (hs : s < 2 ^ 32) : drossref02_Subsets.C s (subsF s) := by
  obtain ⟨r, h1, h2⟩ := drossref02_Subsets.enter s (fun r => r = subsF s) (by
    have hz := drossref02_Size.spec (x := (s : Int)) (U32.of hs)
    rw [sN_nat] at hz
    refine ⟨_, hz, ?_⟩
    unfold subsF
    by_cases h12 : 12 < szN s
    · rw [if_pos (by omega), if_pos h12]
    · rw [if_neg (by omega), if_neg h12]
      have : ∀ (n k : Nat) (out : List Int), szN s + 1 - k ≤ n → k ≤ szN s + 1 → Gath s k 0 out → drossref02_Subsets.L1 s out k (fun r => r = ordL (subL s)) := by
        have fin : ∀ (k : Nat) (out : List Int), k = szN s + 1 → Gath s k 0 out → drossref02_Subsets.L1 s out k (fun r => r = ordL (subL s)) := fun k out hk hg => by
          apply drossref02_Subsets.L1_step
          refine ⟨_, hz, ?_⟩
          rw [if_neg (by omega)]
          refine ordL_eq (subL_all hs) hg.1 fun y => ?_
          rw [hg.2, subL_mem hs]
          constructor
          · rintro ⟨m, a, b, _⟩; exact ⟨m, a, b⟩
          · rintro ⟨m, a, b⟩; have := szN_mono b; exact ⟨m, a, b, by omega⟩
        intro n
        induction n with
        | zero => intro k out hn hk hg; exact fin k out (by omega) hg
        | succ n ih =>
          intro k out hn hk hg
          by_cases hlt : k ≤ szN s
          · apply drossref02_Subsets.L1_step
            refine ⟨_, hz, ?_⟩
            rw [if_pos (by omega)]
            have := szN_le (n := s)
            exact drossref02_Subsets.inner hs (by omega) (fun out' hg' => ih (k + 1) out' (by omega) (by omega) hg') (s + 1) 0 out (by omega) (.inl (by simp)) hg
          · exact fin k out (by omega) hg
      exact this (szN s + 1) 0 [] (by omega) (by omega) ⟨List.Pairwise.nil, fun y => by simp⟩)
  rw [← h1]; exact h2
def levL (n k : Nat) : List Int := ((List.range (2 ^ n)).filter fun s => szN s == k).map fun (m : Nat) => (m : Int)
def levF (n k : Int) : List Int × Int := if n < 0 ∨ 16 < n ∨ k < 0 ∨ n < k then ([], 7) else (levL n.toNat k.toNat, 0)
theorem levL_snoc (c k : Nat) : ((List.range (c + 1)).filter fun s => szN s == k).map (fun (m : Nat) => (m : Int)) = ((List.range c).filter fun s => szN s == k).map (fun (m : Nat) => (m : Int)) ++ if szN c = k then [(c : Int)] else [] := by
  rw [List.range_succ, List.filter_append, List.map_append]
  congr 1
  by_cases h : szN c = k <;> simp [h]
theorem attrset_Level.loop {n k : Nat} (hn : n ≤ 16) {φ : List Int × Int → Prop} (h : φ (levL n k, 0)) (d : Nat) : ∀ c : Nat, 2 ^ n - c ≤ d → c ≤ 2 ^ n → attrset_Level.L1 n k (((List.range c).filter fun s => szN s == k).map fun (m : Nat) => (m : Int)) c φ := by
  have hp : 2 ^ n ≤ 2 ^ 16 := Nat.pow_le_pow_right (by omega) hn
  have e : shlw .u32 1 (n : Int) = ((2 ^ n : Nat) : Int) := shl1_nat (k := .u32) (by simp only [top]; omega)
  have fin : attrset_Level.L1 n k (((List.range (2 ^ n)).filter fun s => szN s == k).map fun (m : Nat) => (m : Int)) ((2 ^ n : Nat) : Int) φ := by
    apply attrset_Level.L1_step
    rw [e]
    refine ⟨by omega, ?_⟩
    rw [if_neg (by omega)]; exact h
  induction d with
  | zero => intro c h1 h2; have : c = 2 ^ n := by omega
            subst this; exact fin
  | succ d ih =>
    intro c h1 h2
    by_cases hlt : c < 2 ^ n
    · apply attrset_Level.L1_step
      rw [e]
      refine ⟨by omega, ?_⟩
      rw [if_pos (by omega)]
      have hz := attrset_Size.spec (x := (c : Int)) (U32.of (by omega))
      rw [sN_nat] at hz
      have := ih (c + 1) (by omega) (by omega)
      rw [levL_snoc] at this
      have hlen : (((List.range c).filter fun s => szN s == k).map fun (m : Nat) => (m : Int)).length ≤ c := by
        rw [List.length_map]
        exact Nat.le_trans (List.length_filter_le _ _) (by simp)
      have ew : IntKind.wrap .u32 ((c : Int) + 1) = ((c + 1 : Nat) : Int) := by
        rw [show (c : Int) + 1 = ((c + 1 : Nat) : Int) by omega]
        exact wrap_top (k := .u32) (by simp only [top]; omega)
      refine ⟨_, hz, ?_⟩
      by_cases hk : szN c = k
      · rw [if_pos (by omega)]
        rw [if_pos hk] at this
        refine ⟨by omega, ?_⟩
        apply attrset_Level.L2_step
        rw [ew]; exact this
      · rw [if_neg (by omega)]
        rw [if_neg hk, List.append_nil] at this
        apply attrset_Level.L2_step
        rw [ew]; exact this
    · have : c = 2 ^ n := by omega
      subst this; exact fin
theorem attrset_Level.spec {n k : Int} : attrset_Level.C n k (levF n k) := by
  obtain ⟨r, h1, h2⟩ := attrset_Level.enter n k (fun r => r = levF n k) (by
    unfold levF
    by_cases a : n < 0
    · rw [if_pos a, if_pos (.inl a)]
    rw [if_neg a]
    by_cases b : 16 < n
    · rw [if_pos b, if_pos (.inr (.inl b))]
    rw [if_neg b]
    by_cases c : k < 0
    · rw [if_pos c, if_pos (.inr (.inr (.inl c)))]
    rw [if_neg c]
    by_cases d : n < k
    · rw [if_pos d, if_pos (.inr (.inr (.inr d)))]
    rw [if_neg d, if_neg (by omega)]
    obtain ⟨m, rfl⟩ : ∃ m : Nat, n = m := ⟨n.toNat, by omega⟩
    obtain ⟨q, rfl⟩ : ∃ q : Nat, k = q := ⟨k.toNat, by omega⟩
    rw [Int.toNat_natCast, Int.toNat_natCast]
    exact attrset_Level.loop (n := m) (k := q) (φ := fun r => r = (levL m q, 0)) (by omega) (Eq.refl _) (2 ^ m) 0 (Nat.sub_le _ _) (Nat.zero_le _))
  rw [← h1]; exact h2
theorem drossref02_Level.loop {n k : Nat} (hn : n ≤ 16) {φ : List Int × Int → Prop} (h : φ (levL n k, 0)) (d : Nat) : ∀ c : Nat, 2 ^ n - c ≤ d → c ≤ 2 ^ n → drossref02_Level.L1 n k (((List.range c).filter fun s => szN s == k).map fun (m : Nat) => (m : Int)) c φ := by
  have hp : 2 ^ n ≤ 2 ^ 16 := Nat.pow_le_pow_right (by omega) hn
  have hp0 : 0 < 2 ^ n := Nat.pow_pos (by omega)
  have ef : fullN n = 2 ^ n - 1 := by unfold fullN; rw [Nat.min_eq_left (by omega)]
  have fin : drossref02_Level.L1 n k (((List.range (2 ^ n)).filter fun s => szN s == k).map fun (m : Nat) => (m : Int)) ((2 ^ n : Nat) : Int) φ := by
    apply drossref02_Level.L1_step
    refine ⟨_, drossref02_Full.spec, ?_⟩
    rw [ef, if_neg (by omega)]; exact h
  induction d with
  | zero => intro c h1 h2; have : c = 2 ^ n := by omega
            subst this; exact fin
  | succ d ih =>
    intro c h1 h2
    by_cases hlt : c < 2 ^ n
    · apply drossref02_Level.L1_step
      refine ⟨_, drossref02_Full.spec, ?_⟩
      rw [ef, if_pos (by omega)]
      have hz := drossref02_Size.spec (x := (c : Int)) (U32.of (by omega))
      rw [sN_nat] at hz
      have := ih (c + 1) (by omega) (by omega)
      rw [levL_snoc] at this
      have hlen : (((List.range c).filter fun s => szN s == k).map fun (m : Nat) => (m : Int)).length ≤ c := by
        rw [List.length_map]
        exact Nat.le_trans (List.length_filter_le _ _) (by simp)
      have ew : IntKind.wrap .u32 ((c : Int) + 1) = ((c + 1 : Nat) : Int) := by
        rw [show (c : Int) + 1 = ((c + 1 : Nat) : Int) by omega]
        exact wrap_top (k := .u32) (by simp only [top]; omega)
      refine ⟨_, hz, ?_⟩
      by_cases hk : szN c = k
      · rw [if_pos (by omega)]
        rw [if_pos hk] at this
        refine ⟨by omega, ?_⟩
        apply drossref02_Level.L2_step
        rw [ew]; exact this
      · rw [if_neg (by omega)]
        rw [if_neg hk, List.append_nil] at this
        apply drossref02_Level.L2_step
        rw [ew]; exact this
    · have : c = 2 ^ n := by omega
      subst this; exact fin
theorem drossref02_Level.spec {n k : Int} : drossref02_Level.C n k (levF n k) := by
  obtain ⟨r, h1, h2⟩ := drossref02_Level.enter n k (fun r => r = levF n k) (by
    unfold levF
    by_cases a : n < 0
    · rw [if_pos a, if_pos (.inl a)]
    rw [if_neg a]
    by_cases b : 16 < n
    · rw [if_pos b, if_pos (.inr (.inl b))]
    rw [if_neg b]
    by_cases c : k < 0
    · rw [if_pos c, if_pos (.inr (.inr (.inl c)))]
    rw [if_neg c]
    by_cases d : n < k
    · rw [if_pos d, if_pos (.inr (.inr (.inr d)))]
    rw [if_neg d, if_neg (by omega)]
    obtain ⟨m, rfl⟩ : ∃ m : Nat, n = m := ⟨n.toNat, by omega⟩
    obtain ⟨q, rfl⟩ : ∃ q : Nat, k = q := ⟨k.toNat, by omega⟩
    rw [Int.toNat_natCast, Int.toNat_natCast]
    exact drossref02_Level.loop (n := m) (k := q) (φ := fun r => r = (levL m q, 0)) (by omega) (Eq.refl _) (2 ^ m) 0 (Nat.sub_le _ _) (Nat.zero_le _))
  rw [← h1]; exact h2
theorem levF_len {n k : Int} : (levF n k).1.length ≤ 65536 := by
  unfold levF
  split
  · simp
  · rename_i h
    have hp : 2 ^ n.toNat ≤ 2 ^ 16 := Nat.pow_le_pow_right (by omega) (by omega)
    show (levL n.toNat k.toNat).length ≤ 65536
    unfold levL
    rw [List.length_map]
    exact Nat.le_trans (List.length_filter_le _ _) (by simp; omega)
end Go.Own

namespace Go.Own
def catL (n j : Nat) : List Int := (List.range j).flatMap (levL n)
theorem catL_succ (n j : Nat) : catL n (j + 1) = catL n j ++ levL n j := by
  unfold catL
  rw [List.range_succ, List.flatMap_append]
  simp
theorem levL_mem {n k : Nat} {y : Int} : y ∈ levL n k ↔ ∃ m : Nat, y = m ∧ m < 2 ^ n ∧ szN m = k := by
  unfold levL
  rw [List.mem_map]
  constructor
  · rintro ⟨m, hm, rfl⟩
    rw [List.mem_filter, List.mem_range, beq_iff_eq] at hm
    exact ⟨m, rfl, hm⟩
  · rintro ⟨m, rfl, a, b⟩
    exact ⟨m, by rw [List.mem_filter, List.mem_range, beq_iff_eq]; exact ⟨a, b⟩, rfl⟩
theorem levL_asc {n k : Nat} : Asc (levL n k) := by
  unfold levL
  rw [Asc, List.pairwise_map, List.pairwise_filter]
  refine List.pairwise_lt_range.imp ?_
  intro a b hab ha hb
  rw [beq_iff_eq] at ha hb
  unfold keyS
  rw [sN_nat, sN_nat, ha, hb]
  omega
theorem levL_len {n k : Nat} : (levL n k).length ≤ 2 ^ n := by
  unfold levL
  rw [List.length_map]
  exact Nat.le_trans (List.length_filter_le _ _) (by simp)
theorem catL_mem {n : Nat} {y : Int} : ∀ {j : Nat}, y ∈ catL n j ↔ ∃ m : Nat, y = m ∧ m < 2 ^ n ∧ szN m < j
  | 0 => by simp [catL]
  | j + 1 => by
    rw [catL_succ, List.mem_append, catL_mem, levL_mem]
    constructor
    · rintro (⟨m, a, b, c⟩ | ⟨m, a, b, c⟩)
      · exact ⟨m, a, b, by omega⟩
      · exact ⟨m, a, b, by omega⟩
    · rintro ⟨m, a, b, c⟩
      by_cases h : szN m < j
      · exact .inl ⟨m, a, b, h⟩
      · exact .inr ⟨m, a, b, by omega⟩
theorem catL_len {n : Nat} : ∀ {j : Nat}, (catL n j).length ≤ j * 2 ^ n
  | 0 => by simp [catL]
  | j + 1 => by
    rw [catL_succ, List.length_append, Nat.succ_mul]
    have := catL_len (n := n) (j := j)
    have := levL_len (n := n) (k := j)
    omega
theorem catL_asc {n : Nat} (hn : n ≤ 8) : ∀ {j : Nat}, Asc (catL n j)
  | 0 => by simp [catL, Asc]
  | j + 1 => by
    have hp : 2 ^ n ≤ 2 ^ 8 := Nat.pow_le_pow_right (by omega) hn
    rw [catL_succ, Asc, List.pairwise_append]
    refine ⟨catL_asc hn, levL_asc, ?_⟩
    intro a ha b hb
    obtain ⟨m, rfl, h1, h2⟩ := catL_mem.1 ha
    obtain ⟨q, rfl, h3, h4⟩ := levL_mem.1 hb
    unfold keyS
    rw [sN_nat, sN_nat]
    omega
theorem szN_full : ∀ n : Nat, n ≤ 8 → szN (2 ^ n - 1) = n := by
  intro n hn
  have : ∀ i : Fin 9, szN (2 ^ i.val - 1) = i.val := by decide +kernel
  exact this ⟨n, by omega⟩
theorem levels_all {n : Nat} (hn : n ≤ 8) : catL n (n + 1) = subsF (2 ^ n - 1) := by
  have hp : 2 ^ n ≤ 2 ^ 8 := Nat.pow_le_pow_right (by omega) hn
  have hp0 : 0 < 2 ^ n := Nat.pow_pos (by omega)
  have hs : 2 ^ n - 1 < 2 ^ 32 := by omega
  have hz := szN_full n hn
  unfold subsF
  rw [if_neg (by omega)]
  refine ordL_eq (subL_all hs) (catL_asc hn) fun y => ?_
  rw [catL_mem, subL_mem hs]
  constructor
  · rintro ⟨m, rfl, a, _⟩
    refine ⟨m, rfl, ?_⟩
    rw [Nat.and_two_pow_sub_one_eq_mod, Nat.mod_eq_of_lt a]
  · rintro ⟨m, rfl, a⟩
    have h1 := szN_mono a
    have h2 := sub_le a
    exact ⟨m, rfl, by omega, by omega⟩
namespace drosslaw02_AttrsetLevels
theorem again {φ : Bool → Prop} (h : φ true) : L2 φ := L2_step φ ⟨true, drosslaw02_awake.spec, h⟩
theorem loop {n : Nat} (hn : n ≤ 8) {φ : Bool → Prop} (h : φ true) (d : Nat) : ∀ j : Nat, n + 1 - j ≤ d → j ≤ n + 1 → L1 n (catL n j) j φ := by
  have hp : 2 ^ n ≤ 2 ^ 8 := Nat.pow_le_pow_right (by omega) hn
  have hp0 : 0 < 2 ^ n := Nat.pow_pos (by omega)
  have ew : IntKind.wrap .i64 (n : Int) = n := wrap_top (k := .i64) (by simp only [top]; omega)
  have fin : L1 n (catL n (n + 1)) ((n + 1 : Nat) : Int) φ := by
    apply L1_step
    rw [ew, wrap_succ (by omega), if_neg (by omega)]
    have ef : fullN n = 2 ^ n - 1 := by unfold fullN; rw [Nat.min_eq_left (by omega)]
    have hs : 2 ^ n - 1 < 2 ^ 32 := by omega
    have hl := subsF_len hs
    refine ⟨_, drossref02_Full.spec, ?_⟩
    rw [ef]
    refine ⟨_, attrset_Subsets.spec hs, _, drossref02_Same.spec (by rw [levels_all hn]; omega), ?_⟩
    rw [decide_eq_true (levels_all hn)]; exact h
  induction d with
  | zero =>
    intro j h1 h2
    have : j = n + 1 := by omega
    subst this; exact fin
  | succ d ih =>
    intro j h1 h2
    by_cases hlt : j < n + 1
    · have hc := catL_len (n := n) (j := j)
      have hv := levL_len (n := n) (k := j)
      have hm : j * 2 ^ n ≤ 9 * 256 := Nat.mul_le_mul (by omega) hp
      have := ih (j + 1) (by omega) (by omega)
      rw [catL_succ] at this
      apply L1_step
      rw [ew, wrap_succ (by omega), if_pos (by omega)]
      refine ⟨_, attrset_Level.spec, ?_⟩
      have e : levF (n : Int) (j : Int) = (levL n j, 0) := by
        unfold levF
        rw [if_neg (by omega), Int.toNat_natCast, Int.toNat_natCast]
      rw [e, if_pos rfl]
      refine ⟨by dsimp only; omega, ?_⟩
      rw [wrap_succ (by omega)]
      exact this
    · have : j = n + 1 := by omega
      subst this; exact fin
theorem spec (n : Int) (hn : 0 ≤ n) : C n true := by
  obtain ⟨r, h1, h2⟩ := enter n (fun r => r = true) (by
    refine ⟨true, drosslaw02_awake.spec, ?_⟩
    rw [if_pos rfl]
    split
    · exact again rfl
    · obtain ⟨m, rfl⟩ : ∃ m : Nat, n = m := ⟨n.toNat, by omega⟩
      exact loop (φ := fun r => r = true) (by omega) (Eq.refl _) (m + 1) 0 (by omega) (by omega))
  subst h1; exact h2
theorem law {xs : List D} (hx : TyAll env.P drosslaw02_AttrsetLevels_K drosslaw02_AttrsetLevels_T xs) : Ret env drosslaw02_AttrsetLevels_F xs (.lit (.bool true)) [] :=
  drosslaw02_AttrsetLevels_of (fun x0 h0 => spec x0 (by
    have h1 := h0.1
    have e1 : IntKind.min .u8 = 0 := rfl
    omega)) hx
end drosslaw02_AttrsetLevels
end Go.Own
