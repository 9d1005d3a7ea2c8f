/- What the functions that the law reaches answer. No conditions. -/
import Derived.Test.YtdlkdimkhmpkkaaDoorAttrsetMinimalLaw10
import Derived.Test.YtdlkdimkhmpkkaaDoorAttrsetMinimalLaw11
import Derived.Test.YtdlkdimkhmpkkaaDoorAttrsetMinimalLaw7
import Derived.Test.YtdlkdimkhmpkkaaDoorAttrsetMinimalLaw4
import Derived.Test.YtdlkdimkhmpkkaaDoorAttrsetMinimalLaw1
import Derived.Test.YtdlkdimkhmpkkaaDoorAttrsetMinimalLaw3
set_option linter.all false

namespace Go.Own
def ltS (x y : Int) : Bool := decide (keyS x < keyS y)
theorem ltS_swo : Go.Sort.SWO ltS where
  irrefl := fun x => by unfold ltS; simp
  trans := fun x y z h1 h2 => by unfold ltS at *; simp only [decide_eq_true_eq] at *; omega
  ntrans := fun x y z h1 h2 => by unfold ltS at *; simp only [decide_eq_false_iff_not] at *; omega
def cmpI (x y : Int) : Int := if x < y then -1 else if y < x then 1 else 0
theorem cmp_Compare_int.spec {x y : Int} : cmp_Compare_int.C x y (cmpI x y) := by
  obtain ⟨f1, g1, k1⟩ := cmp_isNaN_int.enter x (fun r => r = false) (by simp)
  obtain ⟨f2, g2, k2⟩ := cmp_isNaN_int.enter y (fun r => r = false) (by simp)
  subst g1 g2
  obtain ⟨r, h1, h2⟩ := cmp_Compare_int.enter x y (fun r => r = cmpI x y) (by
    refine ⟨_, k1, _, k2, ?_⟩
    rw [if_neg (by decide), if_neg (by decide)]
    unfold cmpI
    split
    · rfl
    · split <;> rfl)
  rw [← h1]; exact h2
theorem cmp_Compare_api_Set.spec {x y : Int} : cmp_Compare_api_Set.C x y (cmpI x y) := by
  obtain ⟨f1, g1, k1⟩ := cmp_isNaN_api_Set.enter x (fun r => r = false) (by simp)
  obtain ⟨f2, g2, k2⟩ := cmp_isNaN_api_Set.enter y (fun r => r = false) (by simp)
  subst g1 g2
  obtain ⟨r, h1, h2⟩ := cmp_Compare_api_Set.enter x y (fun r => r = cmpI x y) (by
    refine ⟨_, k1, _, k2, ?_⟩
    rw [if_neg (by decide), if_neg (by decide)]
    unfold cmpI
    split
    · rfl
    · split <;> rfl)
  rw [← h1]; exact h2
theorem cmp_Or_int.two {a b : Int} : cmp_Or_int.C [a, b] (if a = 0 then b else a) := by
  obtain ⟨r, h1, h2⟩ := cmp_Or_int.enter [a, b] (fun r => r = if a = 0 then b else a) (by
    apply cmp_Or_int.L1_step
    rw [if_pos (by simp)]
    refine ⟨a, rfl, ?_⟩
    by_cases ha : a = 0
    · rw [if_pos ha]
      apply cmp_Or_int.L1_step
      have e : IntKind.wrap .i64 ((0 : Int) + 1) = 1 := by decide
      rw [e, if_pos (by simp)]
      refine ⟨b, rfl, ?_⟩
      by_cases hb : b = 0
      · rw [if_pos hb]
        apply cmp_Or_int.L1_step
        have e : IntKind.wrap .i64 ((1 : Int) + 1) = 2 := by decide
        rw [e, if_neg (by simp), if_pos ha, hb]
      · rw [if_neg hb, if_pos ha]
    · rw [if_neg ha, if_neg ha])
  rw [← h1]; exact h2
theorem cmpS_ok : CmpOK U32 ltS attrset_compare.C := fun x y hx hy => by
  obtain ⟨r, h1, h2⟩ := attrset_compare.enter x y (fun r => r < 0 ↔ ltS x y = true) (by
    refine ⟨_, attrset_Size.spec hx, _, attrset_Size.spec hy, _, cmp_Compare_int.spec, _, cmp_Compare_api_Set.spec, _, cmp_Or_int.two, ?_⟩
    unfold ltS
    rw [decide_eq_true_eq, keyS_lt hx hy]
    have ex := hx.eq
    have ey := hy.eq
    unfold cmpI
    generalize szN (sN x) = s at *
    generalize szN (sN y) = t at *
    by_cases h1 : (s : Int) < t
    · rw [if_pos h1, if_neg (by decide)]; omega
    · rw [if_neg h1]
      by_cases h2 : (t : Int) < s
      · rw [if_pos h2, if_neg (by decide)]; omega
      · rw [if_neg h2, if_pos rfl]
        split
        · omega
        · split <;> omega)
  exact ⟨r, h2, h1⟩
end Go.Own

namespace Go.Own
theorem compactL_snoc : ∀ (l : List Int) (a b : Int), compactL (l ++ [a] ++ [b]) = if a = b then compactL (l ++ [a]) else compactL (l ++ [a]) ++ [b]
  | [], a, b => by
    simp only [List.nil_append, List.singleton_append, compactL]
    split <;> simp_all
  | [c], a, b => by
    simp only [List.singleton_append, List.cons_append, List.nil_append, compactL]
    split <;> split <;> simp_all
  | c :: d :: r, a, b => by
    have ih := compactL_snoc (d :: r) a b
    simp only [List.cons_append, compactL] at ih ⊢
    rw [ih]
    split <;> split <;> simp
theorem take_snoc {l : List Int} {m : Nat} {a : Int} (h : l[m]? = some a) : l.take (m + 1) = l.take m ++ [a] := by
  rw [List.take_add_one, h]; rfl
theorem compact_step {l : List Int} {m : Nat} {a b : Int} (ha : l[m]? = some a) (hb : l[m + 1]? = some b) : compactL (l.take (m + 2)) = if a = b then compactL (l.take (m + 1)) else compactL (l.take (m + 1)) ++ [b] := by
  have e1 : l.take (m + 2) = l.take m ++ [a] ++ [b] := by rw [take_snoc (m := m + 1) hb, take_snoc ha]
  rw [e1, take_snoc ha, compactL_snoc]
namespace slices_Compact_sapi_Set_api_Set
theorem inner {l : List Int} {o : Nat} {φ : List Int × Bool → Prop} (ho : 1 ≤ o) (hol : o < l.length) (hl : l.length < 4611686018427387904) (h : ∀ b, φ (compactL l, b)) (n : Nat) : ∀ (s : List Int) (k k2 : Nat), l.length - o - k2 ≤ n → 1 ≤ k2 → o + k2 ≤ l.length → s.length = l.length → k ≤ o + k2 - 1 → s.take k = compactL (l.take (o + k2)) → (∀ i, o + k2 - 1 ≤ i → s[i]? = l[i]?) → L2 s k o (l.length - o) k2 φ := by
  have hend : ∀ (s : List Int) (k k2 : Nat), o + k2 = l.length → s.length = l.length → k ≤ o + k2 - 1 → s.take k = compactL (l.take (o + k2)) → L2 s k o (l.length - o) k2 φ := fun s k k2 hk2 hs hk ht => by
    apply L2_step
    refine ⟨by omega, ?_⟩
    rw [if_neg (by rw [List.length_take, List.length_drop]; omega)]
    refine ⟨by omega, ⟨by omega, by omega⟩, by omega, by omega, by omega, by omega, ⟨by omega, by omega, by omega⟩, ?_⟩
    rw [Int.toNat_natCast]
    have e : s.take k = compactL l := by rw [ht, List.take_of_length_le (by omega)]
    rw [e]
    exact h _
  induction n with
  | zero => intro s k k2 hn h1 hk2 hs hk ht hd; exact hend s k k2 (by omega) hs hk ht
  | succ n ih =>
    intro s k k2 hn h1 hk2 hs hk ht hd
    by_cases hlt : o + k2 < l.length
    · apply L2_step
      refine ⟨by omega, ?_⟩
      rw [if_pos (by rw [List.length_take, List.length_drop]; omega)]
      obtain ⟨b, hb⟩ : ∃ b, l[o + k2]? = some b := ⟨_, List.getElem?_eq_getElem hlt⟩
      obtain ⟨a, ha⟩ : ∃ a, l[o + k2 - 1]? = some a := ⟨_, List.getElem?_eq_getElem (by omega)⟩
      have e1 : (o : Int) + (k2 : Int) = ((o + k2 : Nat) : Int) := by omega
      have e2 : IntKind.wrap .i64 ((k2 : Int) - 1) = ((k2 - 1 : Nat) : Int) := wx _ _ (by omega) (by omega)
      have e3 : (o : Int) + ((k2 - 1 : Nat) : Int) = ((o + k2 - 1 : Nat) : Int) := by omega
      have e4 : IntKind.wrap .i64 ((k2 : Int) + 1) = ((k2 + 1 : Nat) : Int) := wx _ _ (by omega) (by omega)
      have e5 : IntKind.wrap .i64 ((k : Int) + 1) = ((k + 1 : Nat) : Int) := wx _ _ (by omega) (by omega)
      rw [e1, e2, e3]
      have hstep := compact_step (l := l) (m := o + k2 - 1) ha (by rw [show o + k2 - 1 + 1 = o + k2 by omega]; exact hb)
      rw [show o + k2 - 1 + 2 = o + (k2 + 1) by omega, show o + k2 - 1 + 1 = o + k2 by omega] at hstep
      refine ⟨b, by rw [lget_nat, hd _ (by omega)]; exact hb, ⟨by omega, by omega⟩, by omega, a, by rw [lget_nat, hd _ (by omega)]; exact ha, ⟨by omega, by omega⟩, by omega, ?_⟩
      by_cases hab : b = a
      · rw [if_pos hab]
        apply L3_step
        rw [e4]
        rw [if_pos hab.symm] at hstep
        exact ih s k (k2 + 1) (by omega) (by omega) (by omega) hs (by omega) (by rw [ht, hstep]) (fun i hi => hd i (by omega))
      · rw [if_neg hab]
        rw [if_neg (fun h => hab h.symm)] at hstep
        obtain ⟨c, hc⟩ : ∃ c, s[k]? = some c := ⟨_, List.getElem?_eq_getElem (by omega)⟩
        refine ⟨⟨by omega, by omega⟩, by omega, c, by rw [lget_nat]; exact hc, ?_⟩
        apply L3_step
        rw [e4, e5]
        have hls : lset s (k : Int) b = s.set k b := by unfold lset; rw [Int.toNat_natCast]
        rw [hls]
        refine ih (s.set k b) (k + 1) (k2 + 1) (by omega) (by omega) (by omega) (by rw [List.length_set]; exact hs) (by omega) ?_ (fun i hi => ?_)
        · rw [hstep, ← ht, take_snoc (a := b) (by rw [List.getElem?_set_self (by omega)])]
          congr 1
          rw [List.take_set_of_le (Nat.le_refl k)]
        · rw [List.getElem?_set_ne (by omega)]
          exact hd i (by omega)
    · exact hend s k k2 (by omega) hs hk ht
theorem outer {l : List Int} {φ : List Int × Bool → Prop} (hl : l.length < 4611686018427387904) (h : ∀ b, φ (compactL l, b)) (n : Nat) : ∀ i, l.length - i ≤ n → 1 ≤ i → i ≤ l.length → compactL (l.take i) = l.take i → L1 l i φ := by
  induction n with
  | zero =>
    intro i hn h1 hi hc
    apply L1_step
    rw [if_neg (by omega)]
    have e : i = l.length := by omega
    rw [e, List.take_length] at hc
    have := h true
    rwa [hc] at this
  | succ n ih =>
    intro i hn h1 hi hc
    by_cases hlt : i < l.length
    · apply L1_step
      rw [if_pos (by omega)]
      obtain ⟨b, hb⟩ : ∃ b, l[i]? = some b := ⟨_, List.getElem?_eq_getElem hlt⟩
      obtain ⟨a, ha⟩ : ∃ a, l[i - 1]? = some a := ⟨_, List.getElem?_eq_getElem (by omega)⟩
      have e2 : IntKind.wrap .i64 ((i : Int) - 1) = ((i - 1 : Nat) : Int) := wx _ _ (by omega) (by omega)
      have e4 : IntKind.wrap .i64 ((i : Int) + 1) = ((i + 1 : Nat) : Int) := wx _ _ (by omega) (by omega)
      rw [e2, e4]
      have hstep := compact_step (l := l) (m := i - 1) ha (by rw [show i - 1 + 1 = i by omega]; exact hb)
      rw [show i - 1 + 2 = i + 1 by omega, show i - 1 + 1 = i by omega] at hstep
      refine ⟨b, by rw [lget_nat]; exact hb, a, by rw [lget_nat]; exact ha, ?_⟩
      by_cases hab : b = a
      · rw [if_pos hab]
        rw [if_pos hab.symm] at hstep
        refine ⟨by omega, ⟨by omega, by omega⟩, ?_⟩
        rw [Int.toNat_natCast]
        exact inner (o := i) h1 hlt hl h (l.length - i - 1) l i 1 (Nat.le_refl _) (Nat.le_refl _) (by omega) rfl (by omega) (by rw [hstep, hc]) (fun _ _ => rfl)
      · rw [if_neg hab]
        rw [if_neg (fun h => hab h.symm)] at hstep
        exact ih (i + 1) (by omega) (by omega) (by omega) (by rw [hstep, hc, take_snoc hb])
    · apply L1_step
      rw [if_neg (by omega)]
      have e : i = l.length := by omega
      rw [e, List.take_length] at hc
      have := h true
      rwa [hc] at this
theorem spec {l : List Int} (hl : l.length < 4611686018427387904) : ∃ b, C l (compactL l, b) := by
  obtain ⟨r, ⟨b, rfl⟩, h2⟩ := enter l (fun r => ∃ b, r = (compactL l, b)) (by
    split
    · rename_i h
      refine ⟨true, ?_⟩
      match l, h with
      | [], _ => rfl
      | [a], _ => rfl
      | _ :: _ :: _, h => simp at h; omega
    · rename_i h
      have : 1 ≤ l.length := by omega
      exact outer hl (fun b => ⟨b, rfl⟩) (l.length - 1) 1 (by omega) (by omega) this (by
        obtain ⟨a, r, rfl⟩ : ∃ a r, l = a :: r := by cases l with
          | nil => simp at this
          | cons a r => exact ⟨a, r, rfl⟩
        rfl))
  exact ⟨b, h2⟩
end slices_Compact_sapi_Set_api_Set
end Go.Own

namespace Go.Own
theorem attrset_Order.spec {l : List Int} (hl : l.length ≤ 35184372088832) (hu : AllU l) : attrset_Order.C l (ordL l) := by
  obtain ⟨r, h1, h2⟩ := attrset_Order.enter l (fun r => r = ordL l) (by
    obtain ⟨s, c, hp, ha⟩ := slices_SortFunc_sapi_Set_api_Set_attrset_compare.spec cmpS_ok ltS_swo (l := l) (by omega) hu
    have hlen := hp.length_eq
    obtain ⟨b, c2⟩ := slices_Compact_sapi_Set_api_Set.spec (l := s) (by omega)
    refine ⟨by omega, s, c, _, c2, ?_⟩
    have hus : AllU s := fun x hx => hu x (hp.mem_iff.1 hx)
    refine ordL_eq hu (compactL_asc hus (ha.imp fun h => ?_)) fun y => by rw [compactL_mem, hp.mem_iff]
    unfold ltS at h
    simp only [decide_eq_false_iff_not] at h
    omega)
  rw [← h1]; exact h2
theorem drossref02_In.spec {l : List Int} {x : Int} (hl : l.length < 9223372036854775807) : drossref02_In.C l x (decide (x ∈ l)) := by
  obtain ⟨r, h1, h2⟩ := drossref02_In.enter l x (fun r => r = decide (x ∈ l)) (by
    have e : decide (x ∈ l) = l.any fun a => a == x := by
      rw [Bool.eq_iff_iff]
      simp
    rw [e]
    refine any_loop (l := l) (p := fun a => a == x) (L := fun i => drossref02_In.L1 l x i _) (φ := fun r => r = l.any fun a => a == x) ?_ ?_ rfl
    · intro h; apply drossref02_In.L1_step; rw [if_neg (by omega)]; exact h
    · intro k a ha hk h
      apply drossref02_In.L1_step
      rw [if_pos (by omega)]
      refine ⟨a, lget_of ha, ?_⟩
      rw [wrap_succ (by omega)]
      by_cases hax : a = x
      · rw [if_pos hax]; rw [if_pos (by simpa using hax)] at h; exact h
      · rw [if_neg hax]; rw [if_neg (by simpa using hax)] at h; exact h)
  rw [← h1]; exact h2
theorem drossref02_Same.spec {l m : List Int} (hl : l.length < 9223372036854775807) : drossref02_Same.C l m (decide (l = m)) := by
  obtain ⟨r, h1, h2⟩ := drossref02_Same.enter l m (fun r => r = decide (l = m)) (by
    by_cases hlm : l.length = m.length
    · rw [if_pos (by omega)]
      have : ∀ (n k : Nat), l.length - k ≤ n → k ≤ l.length → l.take k = m.take k → drossref02_Same.L1 l m k (fun r => r = decide (l = m)) := by
        intro n
        induction n with
        | zero =>
          intro k hn hk ht
          apply drossref02_Same.L1_step
          rw [if_neg (by omega)]
          have e : k = l.length := by omega
          rw [e, List.take_length, hlm, List.take_length] at ht
          simp [ht]
        | succ n ih =>
          intro k hn hk ht
          by_cases hlt : k < l.length
          · apply drossref02_Same.L1_step
            rw [if_pos (by omega)]
            have ha : l[k]? = some l[k] := List.getElem?_eq_getElem hlt
            have hb : m[k]? = some m[k] := List.getElem?_eq_getElem (by omega)
            refine ⟨_, lget_of ha, _, lget_of hb, ?_⟩
            rw [wrap_succ (by omega)]
            by_cases hab : l[k] = m[k]
            · rw [if_pos hab]
              exact ih (k + 1) (by omega) (by omega) (by rw [take_snoc ha, take_snoc hb, ht, hab])
            · rw [if_neg hab]
              have : ¬ l = m := fun h => by subst h; exact hab rfl
              simp [this]
          · apply drossref02_Same.L1_step
            rw [if_neg (by omega)]
            have e : k = l.length := by omega
            rw [e, List.take_length, hlm, List.take_length] at ht
            simp [ht]
      exact this l.length 0 (by omega) (by omega) (by simp)
    · rw [if_neg (by omega)]
      have : ¬ l = m := fun h => hlm (by rw [h])
      simp [this])
  rw [← h1]; exact h2
theorem drossref02_Members.spec {n : Nat} (hn : n < 2 ^ 32) : drossref02_Members.C n ((bitsOf n).map fun (i : Nat) => (i : Int)) := by
  obtain ⟨r, h1, h2⟩ := drossref02_Members.enter n (fun r => r = (bitsOf n).map fun (i : Nat) => (i : Int)) (by
    have : ∀ (m k : Nat), 32 - k ≤ m → k ≤ 32 → drossref02_Members.L1 n (((List.range k).filter fun i => n.testBit i).map fun (i : Nat) => (i : Int)) k (fun r => r = (bitsOf n).map fun (i : Nat) => (i : Int)) := by
      intro m
      induction m with
      | zero =>
        intro k hm hk
        apply drossref02_Members.L1_step
        rw [if_neg (by omega)]
        have e : k = 32 := by omega
        subst e; rfl
      | succ m ih =>
        intro k hm hk
        apply drossref02_Members.L1_step
        by_cases hlt : k < 32
        · rw [if_pos (by omega)]
          refine ⟨_, drossref02_Has.spec hn, ?_⟩
          have hlen : (((List.range k).filter fun i => n.testBit i).map fun (i : Nat) => (i : Int)).length ≤ 32 := by
            rw [List.length_map]
            exact Nat.le_trans (List.length_filter_le _ _) (by simp; omega)
          have := ih (k + 1) (by omega) (by omega)
          rw [List.range_succ, List.filter_append, List.map_append] at this
          by_cases hb : n.testBit k = true
          · rw [if_pos hb]
            refine ⟨by omega, ?_⟩
            apply drossref02_Members.L2_step
            rw [wrap_succ (by omega)]
            simpa [hb] using this
          · rw [if_neg hb]
            apply drossref02_Members.L2_step
            rw [wrap_succ (by omega)]
            simpa [hb] using this
        · rw [if_neg (by omega)]
          have e : k = 32 := by omega
          subst e; rfl
    exact this 32 0 (by omega) (by omega))
  rw [← h1]; exact h2
theorem drossref02_Size.spec {x : Int} (hx : U32 x) : drossref02_Size.C x (szN (sN x) : Int) := by
  have := drossref02_Members.spec hx.lt
  rw [← hx.eq] at this
  obtain ⟨r, h1, h2⟩ := drossref02_Size.enter x (fun r => r = (szN (sN x) : Int)) ⟨_, this, by rw [List.length_map]; rfl⟩
  rw [← h1]; exact h2
theorem drossref02_Before.spec {x y : Int} (hx : U32 x) (hy : U32 y) : drossref02_Before.C x y (ltS x y) := by
  obtain ⟨r, h1, h2⟩ := drossref02_Before.enter x y (fun r => r = ltS x y) (by
    refine ⟨_, drossref02_Size.spec hx, _, drossref02_Size.spec hy, ?_⟩
    have ex := hx.eq
    have ey := hy.eq
    have hk := keyS_lt hx hy
    unfold ltS
    split
    · rename_i h
      rw [decide_eq_decide, hk]
      omega
    · rename_i h
      refine ⟨_, drossref02_Size.spec hx, _, drossref02_Size.spec hy, ?_⟩
      rw [decide_eq_decide, hk]
      omega)
  rw [← h1]; exact h2
theorem set_swap {p q : List Int} {b x : Int} : lset (lset (p ++ [b] ++ x :: q) ((p.length + 1 : Nat) : Int) b) ((p.length : Nat) : Int) x = p ++ x :: b :: q := by
  unfold lset
  rw [Int.toNat_natCast, Int.toNat_natCast, List.append_assoc, List.singleton_append]
  induction p with
  | nil => rfl
  | cons a p ih =>
    simp only [List.cons_append, List.length_cons, List.set_cons_succ]
    exact congrArg _ ih
theorem drossref02_Order.place {l : List Int} {x : Int} {i : Nat} {φ : List Int → Prop} (hx : U32 x) {out : List Int} (hu : AllU out) (ha : Asc out) (hn : x ∉ out) (hl : out.length < 9223372036854775800) (h : drossref02_Order.L3 l (insS x out) i φ) : ∀ (n : Nat) (p q : List Int), p.length = n → p ++ q = out → (∀ y ∈ q, keyS x < keyS y) → drossref02_Order.L2 l (p ++ x :: q) i n φ := by
  have fin : ∀ p q : List Int, p ++ q = out → (∀ y ∈ q, keyS x < keyS y) → (∀ y ∈ p, keyS y < keyS x) → insS x out = p ++ x :: q := fun p q hpq hq hp => by
    refine asc_ext keyS (insS_asc hx hu ha) ?_ fun y => ?_
    · subst hpq
      have ha : List.Pairwise (fun a b => keyS a < keyS b) (p ++ q) := ha
      rw [List.pairwise_append] at ha ⊢
      refine ⟨ha.1, List.pairwise_cons.2 ⟨hq, ha.2.1⟩, fun a h1 b h2 => ?_⟩
      rcases List.mem_cons.1 h2 with rfl | h2
      · exact hp a h1
      · exact ha.2.2 a h1 b h2
    · rw [insS_mem hx hu, ← hpq, List.mem_append, List.mem_append, List.mem_cons]
      constructor
      · rintro (h | h | h) <;> simp [h]
      · rintro (h | h | h) <;> simp [h]
  intro n
  induction n with
  | zero =>
    intro p q hp hpq hq
    apply drossref02_Order.L2_step
    rw [if_neg (by omega)]
    have := fin p q hpq hq (by have := List.eq_nil_of_length_eq_zero hp; subst this; simp)
    rwa [this] at h
  | succ n ih =>
    intro p q hp hpq hq
    apply drossref02_Order.L2_step
    rw [if_pos (by omega)]
    obtain ⟨p', b, rfl⟩ : ∃ p' b, p = p' ++ [b] := by
      have : p ≠ [] := fun h => by subst h; simp at hp
      exact ⟨p.dropLast, p.getLast this, (List.dropLast_concat_getLast this).symm⟩
    have hp' : p'.length = n := by simpa using hp
    have hlen : p'.length + 1 + q.length = out.length := by rw [← hpq]; simp; omega
    have hub : U32 b := hu b (by rw [← hpq]; simp)
    have e1 : IntKind.wrap .i64 (((n + 1 : Nat) : Int) - 1) = (n : Int) := wx _ _ (by omega) (by omega)
    rw [e1]
    refine ⟨x, ?_, b, ?_, _, drossref02_Before.spec hx hub, ?_⟩
    · rw [lget_nat, List.getElem?_append_right (by simp; omega)]
      simp [hp']
    · rw [lget_nat, List.getElem?_append_left (by simp; omega), List.getElem?_append_right (by omega)]
      simp [hp']
    · by_cases hlt : ltS x b = true
      · rw [if_pos hlt]
        have hltk : keyS x < keyS b := by simpa [ltS] using hlt
        obtain ⟨z, hz⟩ : ∃ z, lget (lset (p' ++ [b] ++ x :: q) ((n + 1 : Nat) : Int) b) (n : Int) = some z := lget_lt (by omega) (by rw [lset_length]; simp; omega)
        refine ⟨z, hz, ?_⟩
        have hsw := set_swap (p := p') (q := q) (b := b) (x := x)
        rw [hp'] at hsw
        rw [hsw]
        refine ih p' (b :: q) hp' (by rw [← hpq]; simp) fun y hy => ?_
        rcases List.mem_cons.1 hy with rfl | hy
        · exact hltk
        · exact hq y hy
      · rw [if_neg hlt]
        have hnlt : ¬ keyS x < keyS b := by simpa [ltS] using hlt
        have hne : keyS x ≠ keyS b := fun he => by
          have := keyS_inj hx hub he
          subst this
          exact hn (by rw [← hpq]; simp)
        have := fin (p' ++ [b]) q hpq hq (fun y hy => by
          rcases List.mem_append.1 hy with hy | hy
          · have hao : Asc (p' ++ [b]) := (List.pairwise_append.1 (hpq ▸ ha)).1
            have := (List.pairwise_append.1 hao).2.2 y hy b (by simp)
            omega
          · obtain rfl := List.mem_singleton.1 hy
            omega)
        rwa [this] at h
theorem drossref02_Order.spec {l : List Int} (hl : l.length ≤ 35184372088832) (hu : AllU l) : drossref02_Order.C l (ordL l) := by
  obtain ⟨r, h1, h2⟩ := drossref02_Order.enter l (fun r => r = ordL l) (by
    have := fold_loop (l := l) (f := fun acc x => insS x acc) (Inv := fun k s => AllU s ∧ Asc s ∧ s.length ≤ k) (L := fun s i => drossref02_Order.L1 l s i (fun r => r = ordL l)) (K := fun s => s = ordL l) (s := [])
      (fun s hi hk => by apply drossref02_Order.L1_step; rw [if_neg (by omega)]; exact hk)
      (fun k a s ha hk hi => by
        obtain ⟨i1, i2, i3⟩ := hi
        have hua := hu a (List.mem_of_getElem? ha)
        have hlen : (insS a s).length ≤ s.length + 1 := by
          clear i1 i2 i3
          induction s with
          | nil => simp [insS]
          | cons b m ih2 =>
            simp only [insS]
            split
            · simp
            · split
              · simp
              · simp only [List.length_cons]; omega
        refine ⟨⟨fun y hy => ?_, insS_asc hua i1 i2, by omega⟩, fun hL => ?_⟩
        · rcases (insS_mem hua i1 y).1 hy with rfl | hy
          · exact hua
          · exact i1 y hy
        · apply drossref02_Order.L1_step
          rw [if_pos (by omega)]
          refine ⟨a, lget_of ha, _, drossref02_In.spec (by omega), ?_⟩
          have l3 : drossref02_Order.L3 l (insS a s) k (fun r => r = ordL l) := by
            apply drossref02_Order.L3_step
            rw [wrap_succ (by omega)]
            exact hL
          by_cases hin : a ∈ s
          · rw [if_pos (by simpa using hin)]
            have e : insS a s = s := asc_ext keyS (insS_asc hua i1 i2) i2 fun y => by
              rw [insS_mem hua i1]
              constructor
              · rintro (rfl | h); exact hin; exact h
              · exact .inr
            rwa [e] at l3
          · rw [if_neg (by simpa using hin)]
            refine ⟨by omega, ?_⟩
            have e1 : IntKind.wrap .i64 (((s ++ [a]).length : Int) - 1) = (s.length : Int) := wx _ _ (by simp) (by omega)
            rw [e1]
            exact drossref02_Order.place hua i1 i2 hin (by omega) l3 s.length s [] rfl (by simp) (by simp))
      ⟨fun _ h => (by cases h), List.Pairwise.nil, by simp⟩ rfl
    exact this)
  rw [← h1]; exact h2
end Go.Own

namespace Go.Own
def subB (a b : Int) : Bool := decide (sN a &&& sN b = sN a)
theorem andNot_sub {a b : Int} (ha : U32 a) (hb : U32 b) : (bAndNot .u32 a b == 0) = subB a b := by
  have e : bAndNot .u32 a b = ((ndiff (sN a) (sN b) : Nat) : Int) := by
    conv => lhs; rw [ha.eq, hb.eq]
    exact bAndNot_nat ha.top hb.top
  rw [e]
  unfold subB
  rw [Bool.eq_iff_iff, beq_iff_eq, decide_eq_true_iff, sub_iff, ← ndiff_zero]
  omega
theorem subB.spec {a b : Int} (ha : U32 a) (hb : U32 b) : drossref02_Sub.C a b (subB a b) := by
  have := drossref02_Sub.spec (a := sN a) (b := sN b) ha.lt hb.lt
  rw [← ha.eq, ← hb.eq] at this
  exact this
theorem attrset_Minimal_1.spec {a b : Int} (ha : U32 a) (hb : U32 b) : attrset_Minimal_1.C a b (subB b a) := by
  obtain ⟨r, h1, h2⟩ := attrset_Minimal_1.enter a b (fun r => r = subB b a) (by
    have e := andNot_sub hb ha
    rw [e])
  rw [← h1]; exact h2
theorem attrset_keep_1_1.spec {a b : Int} (ha : U32 a) (hb : U32 b) : attrset_keep_1_1.C b a (!(a == b) && subB b a) := by
  obtain ⟨r, h1, h2⟩ := attrset_keep_1_1.enter b a (fun r => r = (!(a == b) && subB b a)) (by
    by_cases h : a = b
    · rw [if_pos h]; simp [h]
    · rw [if_neg h]
      refine ⟨_, attrset_Minimal_1.spec ha hb, ?_⟩
      simp [h])
  rw [← h1]; exact h2
theorem slices_ContainsFunc_sapi_Set_api_Set_attrset_keep_1_1.spec {l : List Int} {a : Int} (ha : U32 a) (hu : AllU l) (hl : l.length < 9223372036854775807) : slices_ContainsFunc_sapi_Set_api_Set_attrset_keep_1_1.C l a (l.any fun b => !(a == b) && subB b a) := by
  obtain ⟨q, g1, g2⟩ := slices_IndexFunc_sapi_Set_api_Set_attrset_keep_1_1.enter l a (fun r => r = ixI (fun b => !(a == b) && subB b a) l) (by
    refine index_loop (l := l) (p := fun b => !(a == b) && subB b a) (L := fun i => slices_IndexFunc_sapi_Set_api_Set_attrset_keep_1_1.L1 l a i _) (φ := fun r => r = ixI (fun b => !(a == b) && subB b a) l) ?_ ?_ rfl
    · intro h; apply slices_IndexFunc_sapi_Set_api_Set_attrset_keep_1_1.L1_step; rw [if_neg (by omega)]; exact h
    · intro k b hb hk h
      apply slices_IndexFunc_sapi_Set_api_Set_attrset_keep_1_1.L1_step
      rw [if_pos (by omega)]
      refine ⟨b, lget_of hb, _, attrset_keep_1_1.spec ha (hu b (List.mem_of_getElem? hb)), ?_⟩
      rw [wrap_succ (by omega)]; exact h)
  subst g1
  obtain ⟨r, h1, h2⟩ := slices_ContainsFunc_sapi_Set_api_Set_attrset_keep_1_1.enter l a (fun r => r = l.any fun b => !(a == b) && subB b a) ⟨_, g2, ixI_any⟩
  rw [← h1]; exact h2
def goneMinimal (l : List Int) (a : Int) : Bool := l.any fun b => !(a == b) && subB b a
theorem attrset_keep_1.spec {l : List Int} {a : Int} (ha : U32 a) (hu : AllU l) (hl : l.length < 9223372036854775807) : attrset_keep_1.C a l (goneMinimal l a) := by
  obtain ⟨r, h1, h2⟩ := attrset_keep_1.enter a l (fun r => r = goneMinimal l a) ⟨_, slices_ContainsFunc_sapi_Set_api_Set_attrset_keep_1_1.spec ha hu hl, rfl⟩
  rw [← h1]; exact h2
namespace slices_DeleteFunc_sapi_Set_api_Set_attrset_keep_1
theorem loop {x0 l0 : List Int} {φ : List Int × Bool → Prop} (hu0 : AllU x0) (hu : AllU l0) (hl0 : l0.length < 4611686018427387904) (hn : x0.length < 4611686018427387904) (hφ : ∀ b, φ (x0.filter (fun a => !goneMinimal l0 a), b)) (r : List Int) : ∀ (k j : Nat) (l : List Int), x0.drop k = r → l.length = x0.length → l.drop k = x0.drop k → l.take j = (x0.take k).filter (fun a => !goneMinimal l0 a) → j ≤ k → k ≤ x0.length → L1 l l0 j k φ := by
  induction r with
  | nil =>
    intro k j l hd hl h1 h2 h3 h4
    apply L1_step
    have hk := drop_ge hd
    rw [if_neg (by omega)]
    refine ⟨by omega, ⟨by omega, by omega⟩, by omega, by omega, by omega, by omega, ⟨by omega, by omega, by omega⟩, ?_⟩
    rw [Int.toNat_natCast, h2, List.take_of_length_le hk]
    exact hφ _
  | cons c r ih =>
    intro k j l hd hl h1 h2 h3 h4
    apply L1_step
    have hk := drop_lt hd
    rw [if_pos (by omega)]
    have hlk : l.drop k = c :: r := by rw [h1, hd]
    have hc : U32 c := hu0 c (List.mem_of_getElem? (drop_get hd))
    refine ⟨c, lget_drop hlk, _, attrset_keep_1.spec hc hu (by omega), ?_⟩
    have htk : x0.take (k + 1) = x0.take k ++ [c] := by rw [List.take_add_one, drop_get hd]; rfl
    by_cases hg : goneMinimal l0 c = true
    · rw [if_pos hg]
      apply L2_step
      rw [wrap_succ (by omega)]
      refine ih (k + 1) j l (drop_next hd) hl ?_ ?_ (by omega) (by omega)
      · rw [drop_next hlk, drop_next hd]
      · rw [htk, List.filter_append, h2]; simp [hg]
    · rw [if_neg hg]
      obtain ⟨a, ha⟩ := lget_lt (l := l) (i := (j : Int)) (by omega) (by omega)
      refine ⟨a, ha, ?_⟩
      apply L2_step
      rw [wrap_succ (by omega), wrap_succ (by omega)]
      have hs : lset l (j : Int) c = l.set j c := by simp [lset]
      rw [hs]
      refine ih (k + 1) (j + 1) (l.set j c) (drop_next hd) (by simp [hl]) ?_ ?_ (by omega) (by omega)
      · rw [List.drop_set_of_lt (by omega), drop_next hlk, drop_next hd]
      · rw [htk, List.filter_append, ← h2, List.take_add_one]
        have e1 : (l.set j c)[j]? = some c := by rw [List.getElem?_set_self (by omega)]
        rw [e1, List.take_set_of_le (by omega)]
        simp [hg]
theorem spec {x0 l0 : List Int} (hu0 : AllU x0) (hu : AllU l0) (hl0 : l0.length < 4611686018427387904) (hn : x0.length < 4611686018427387904) : ∃ b, C x0 l0 (x0.filter (fun a => !goneMinimal l0 a), b) := by
  obtain ⟨q, g1, g2⟩ := slices_IndexFunc_sapi_Set_api_Set_attrset_keep_1.enter x0 l0 (fun r => r = ixI (goneMinimal l0) x0) (by
    refine index_loop (l := x0) (p := goneMinimal l0) (L := fun i => slices_IndexFunc_sapi_Set_api_Set_attrset_keep_1.L1 x0 l0 i _) (φ := fun r => r = ixI (goneMinimal l0) x0) ?_ ?_ rfl
    · intro h; apply slices_IndexFunc_sapi_Set_api_Set_attrset_keep_1.L1_step; rw [if_neg (by omega)]; exact h
    · intro k b hb hk h
      apply slices_IndexFunc_sapi_Set_api_Set_attrset_keep_1.L1_step
      rw [if_pos (by omega)]
      refine ⟨b, lget_of hb, _, attrset_keep_1.spec (hu0 b (List.mem_of_getElem? hb)) hu (by omega), ?_⟩
      rw [wrap_succ (by omega)]; exact h)
  subst g1
  obtain ⟨r, h1, h2⟩ := enter x0 l0 (fun r => r.1 = x0.filter (fun a => !goneMinimal l0 a)) (by
    refine ⟨_, g2, ?_⟩
    rcases ixI_spec (l := x0) (p := goneMinimal l0) with ⟨h1, h2⟩ | ⟨n, c, h1, h4, h5, h3⟩
    · rw [if_pos h1]
      exact (List.filter_eq_self.2 fun a ha => by simp [h2 a ha]).symm
    · have hnl : n < x0.length := (List.getElem?_eq_some_iff.1 h4).1
      rw [if_neg (by omega), h1, wrap_succ (by omega)]
      refine loop (φ := fun r => r.1 = x0.filter (fun a => !goneMinimal l0 a)) hu0 hu hl0 hn (fun b => rfl) _ (n + 1) n x0 rfl rfl rfl ?_ (by omega) (by omega)
      have htk : x0.take (n + 1) = x0.take n ++ [c] := by rw [List.take_add_one, h4]; rfl
      rw [htk, List.filter_append, List.filter_eq_self.2 fun a ha => by simp [h3 a ha]]
      simp [h5])
  obtain ⟨l, b⟩ := r
  simp only at h1
  subst h1
  exact ⟨b, h2⟩
end slices_DeleteFunc_sapi_Set_api_Set_attrset_keep_1
def fMinimal (l : List Int) : List Int := (ordL l).filter fun a => !goneMinimal (ordL l) a
theorem attrset_Minimal.spec {l : List Int} (hl : l.length ≤ 1000000) (hu : AllU l) : attrset_Minimal.C l (fMinimal l) := by
  have hlen := ordL_len (l := l)
  have ho := ordL_all hu
  obtain ⟨b, hb⟩ := slices_DeleteFunc_sapi_Set_api_Set_attrset_keep_1.spec ho ho (by omega) (by omega)
  obtain ⟨q, g1, g2⟩ := attrset_keep_attrset_Minimal_1.enter l (fun r => r = fMinimal l) ⟨_, attrset_Order.spec (by omega) hu, by omega, _, hb, rfl⟩
  subst g1
  obtain ⟨r, h1, h2⟩ := attrset_Minimal.enter l (fun r => r = fMinimal l) ⟨_, g2, rfl⟩
  rw [← h1]; exact h2
theorem drossref02_Minimal.inner {all out : List Int} {i : Nat} {a : Int} {φ : List Int → Prop} (hu : AllU all) (hl : all.length ≤ 1000000) (hlo : out.length ≤ 1000000) (ha : all[i]? = some a) (hnd : all.Nodup) (h : drossref02_Minimal.L1 (if goneMinimal all a = true then out else out ++ [a]) all ((i + 1 : Nat) : Int) φ) : drossref02_Minimal.L2 out all i true 0 φ := by
  have hua := hu a (List.mem_of_getElem? ha)
  have hi : i < all.length := (List.getElem?_eq_some_iff.1 ha).1
  have : ∀ (n k : Nat), all.length - k ≤ n → k ≤ all.length → drossref02_Minimal.L2 out all i (!(all.take k).any fun b => !(a == b) && subB b a) k φ := by
    have fin : ∀ k, k = all.length → drossref02_Minimal.L2 out all i (!(all.take k).any fun b => !(a == b) && subB b a) k φ := fun k hk => by
      apply drossref02_Minimal.L2_step
      subst hk
      rw [if_neg (by omega), List.take_length]
      have e : (all.any fun b => !(a == b) && subB b a) = goneMinimal all a := rfl
      rw [e]
      cases hg : goneMinimal all a with
      | true =>
        rw [hg] at h
        rw [if_neg (by decide)]
        apply drossref02_Minimal.L4_step
        rw [wrap_succ (by omega)]; exact h
      | false =>
        rw [hg] at h
        rw [if_pos (by decide)]
        refine ⟨a, lget_of ha, by omega, ?_⟩
        apply drossref02_Minimal.L4_step
        rw [wrap_succ (by omega)]; exact h
    intro n
    induction n with
    | zero => intro k hn hk; exact fin k (by omega)
    | succ n ih =>
      intro k hn hk
      by_cases hlt : k < all.length
      · have hb : all[k]? = some all[k] := List.getElem?_eq_getElem hlt
        have hub := hu all[k] (List.mem_of_getElem? hb)
        have := ih (k + 1) (by omega) (by omega)
        have htk : all.take (k + 1) = all.take k ++ [all[k]] := by rw [List.take_add_one, hb]; rfl
        rw [htk, List.any_append] at this
        apply drossref02_Minimal.L2_step
        rw [if_pos (by omega)]
        cases hq : (all.take k).any fun b => !(a == b) && subB b a with
        | true =>
          rw [hq, Bool.true_or] at this
          rw [if_neg (by decide)]
          apply drossref02_Minimal.L3_step
          rw [wrap_succ (by omega)]; exact this
        | false =>
          rw [hq, Bool.false_or] at this
          rw [if_pos (by decide)]
          by_cases hki : k = i
          · rw [if_pos (by omega)]
            have hka : all[k] = a := by subst hki; rw [hb] at ha; exact Option.some.inj ha
            apply drossref02_Minimal.L3_step
            rw [wrap_succ (by omega)]
            rw [List.any_cons, List.any_nil, hka, beq_self_eq_true, Bool.not_true, Bool.false_and, Bool.or_false, Bool.not_false] at this
            exact this
          · rw [if_neg (by omega)]
            have hne : ¬ a = all[k] := fun he => hki (by
              have h1 : all[i] = a := by rw [List.getElem?_eq_getElem hi] at ha; exact Option.some.inj ha
              exact ((List.getElem_inj hnd).1 (by rw [h1, ← he])))
            refine ⟨_, lget_of hb, a, lget_of ha, _, subB.spec hub hua, ?_⟩
            apply drossref02_Minimal.L3_step
            rw [wrap_succ (by omega)]
            have hq2 : (a == all[k]) = false := beq_eq_false_iff_ne.2 hne
            rw [List.any_cons, List.any_nil, hq2, Bool.not_false, Bool.true_and, Bool.or_false] at this
            exact this
      · exact fin k (by omega)
  exact this all.length 0 (by omega) (by omega)
theorem drossref02_Minimal.spec {l : List Int} (hl : l.length ≤ 1000000) (hu : AllU l) : drossref02_Minimal.C l (fMinimal l) := by
  have hlen := ordL_len (l := l)
  have ho := ordL_all hu
  have hnd : (ordL l).Nodup := (ordL_asc hu).imp fun {a b} h => fun e => by subst e; omega
  obtain ⟨r, h1, h2⟩ := drossref02_Minimal.enter l (fun r => r = fMinimal l) (by
    refine ⟨_, drossref02_Order.spec (by omega) hu, ?_⟩
    unfold fMinimal
    generalize ordL l = all at *
    have : ∀ (n k : Nat), all.length - k ≤ n → k ≤ all.length → drossref02_Minimal.L1 ((all.take k).filter fun a => !goneMinimal all a) all k (fun r => r = all.filter fun a => !goneMinimal all a) := by
      have fin : ∀ k, k = all.length → drossref02_Minimal.L1 ((all.take k).filter fun a => !goneMinimal all a) all k (fun r => r = all.filter fun a => !goneMinimal all a) := fun k hk => by
        apply drossref02_Minimal.L1_step
        rw [if_neg (by omega)]
        subst hk
        rw [List.take_length]
      intro n
      induction n with
      | zero => intro k hn hk; exact fin k (by omega)
      | succ n ih =>
        intro k hn hk
        by_cases hlt : k < all.length
        · have hb : all[k]? = some all[k] := List.getElem?_eq_getElem hlt
          have := ih (k + 1) (by omega) (by omega)
          have htk : all.take (k + 1) = all.take k ++ [all[k]] := by rw [List.take_add_one, hb]; rfl
          rw [htk, List.filter_append] at this
          apply drossref02_Minimal.L1_step
          rw [if_pos (by omega)]
          refine drossref02_Minimal.inner ho (by omega) (Nat.le_trans (List.length_filter_le _ _) (by rw [List.length_take]; omega)) hb hnd ?_
          cases hg : goneMinimal all all[k] with
          | true => simpa [hg] using this
          | false => simpa [hg] using this
        · exact fin k (by omega)
    exact this all.length 0 (by omega) (by omega))
  rw [← h1]; exact h2
theorem attrset_Maximal_1.spec {a b : Int} (ha : U32 a) (hb : U32 b) : attrset_Maximal_1.C a b (subB a b) := by
  obtain ⟨r, h1, h2⟩ := attrset_Maximal_1.enter a b (fun r => r = subB a b) (by
    have e := andNot_sub ha hb
    rw [e])
  rw [← h1]; exact h2
theorem attrset_keep_1_1_v1.spec {a b : Int} (ha : U32 a) (hb : U32 b) : attrset_keep_1_1_v1.C b a (!(a == b) && subB a b) := by
  obtain ⟨r, h1, h2⟩ := attrset_keep_1_1_v1.enter b a (fun r => r = (!(a == b) && subB a b)) (by
    by_cases h : a = b
    · rw [if_pos h]; simp [h]
    · rw [if_neg h]
      refine ⟨_, attrset_Maximal_1.spec ha hb, ?_⟩
      simp [h])
  rw [← h1]; exact h2
theorem slices_ContainsFunc_sapi_Set_api_Set_attrset_keep_1_1_v1.spec {l : List Int} {a : Int} (ha : U32 a) (hu : AllU l) (hl : l.length < 9223372036854775807) : slices_ContainsFunc_sapi_Set_api_Set_attrset_keep_1_1_v1.C l a (l.any fun b => !(a == b) && subB a b) := by
  obtain ⟨q, g1, g2⟩ := slices_IndexFunc_sapi_Set_api_Set_attrset_keep_1_1_v1.enter l a (fun r => r = ixI (fun b => !(a == b) && subB a b) l) (by
    refine index_loop (l := l) (p := fun b => !(a == b) && subB a b) (L := fun i => slices_IndexFunc_sapi_Set_api_Set_attrset_keep_1_1_v1.L1 l a i _) (φ := fun r => r = ixI (fun b => !(a == b) && subB a b) l) ?_ ?_ rfl
    · intro h; apply slices_IndexFunc_sapi_Set_api_Set_attrset_keep_1_1_v1.L1_step; rw [if_neg (by omega)]; exact h
    · intro k b hb hk h
      apply slices_IndexFunc_sapi_Set_api_Set_attrset_keep_1_1_v1.L1_step
      rw [if_pos (by omega)]
      refine ⟨b, lget_of hb, _, attrset_keep_1_1_v1.spec ha (hu b (List.mem_of_getElem? hb)), ?_⟩
      rw [wrap_succ (by omega)]; exact h)
  subst g1
  obtain ⟨r, h1, h2⟩ := slices_ContainsFunc_sapi_Set_api_Set_attrset_keep_1_1_v1.enter l a (fun r => r = l.any fun b => !(a == b) && subB a b) ⟨_, g2, ixI_any⟩
  rw [← h1]; exact h2
def goneMaximal (l : List Int) (a : Int) : Bool := l.any fun b => !(a == b) && subB a b
theorem attrset_keep_1_v1.spec {l : List Int} {a : Int} (ha : U32 a) (hu : AllU l) (hl : l.length < 9223372036854775807) : attrset_keep_1_v1.C a l (goneMaximal l a) := by
  obtain ⟨r, h1, h2⟩ := attrset_keep_1_v1.enter a l (fun r => r = goneMaximal l a) ⟨_, slices_ContainsFunc_sapi_Set_api_Set_attrset_keep_1_1_v1.spec ha hu hl, rfl⟩
  rw [← h1]; exact h2
namespace slices_DeleteFunc_sapi_Set_api_Set_attrset_keep_1_v1
theorem loop {x0 l0 : List Int} {φ : List Int × Bool → Prop} (hu0 : AllU x0) (hu : AllU l0) (hl0 : l0.length < 4611686018427387904) (hn : x0.length < 4611686018427387904) (hφ : ∀ b, φ (x0.filter (fun a => !goneMaximal l0 a), b)) (r : List Int) : ∀ (k j : Nat) (l : List Int), x0.drop k = r → l.length = x0.length → l.drop k = x0.drop k → l.take j = (x0.take k).filter (fun a => !goneMaximal l0 a) → j ≤ k → k ≤ x0.length → L1 l l0 j k φ := by
  induction r with
  | nil =>
    intro k j l hd hl h1 h2 h3 h4
    apply L1_step
    have hk := drop_ge hd
    rw [if_neg (by omega)]
    refine ⟨by omega, ⟨by omega, by omega⟩, by omega, by omega, by omega, by omega, ⟨by omega, by omega, by omega⟩, ?_⟩
    rw [Int.toNat_natCast, h2, List.take_of_length_le hk]
    exact hφ _
  | cons c r ih =>
    intro k j l hd hl h1 h2 h3 h4
    apply L1_step
    have hk := drop_lt hd
    rw [if_pos (by omega)]
    have hlk : l.drop k = c :: r := by rw [h1, hd]
    have hc : U32 c := hu0 c (List.mem_of_getElem? (drop_get hd))
    refine ⟨c, lget_drop hlk, _, attrset_keep_1_v1.spec hc hu (by omega), ?_⟩
    have htk : x0.take (k + 1) = x0.take k ++ [c] := by rw [List.take_add_one, drop_get hd]; rfl
    by_cases hg : goneMaximal l0 c = true
    · rw [if_pos hg]
      apply L2_step
      rw [wrap_succ (by omega)]
      refine ih (k + 1) j l (drop_next hd) hl ?_ ?_ (by omega) (by omega)
      · rw [drop_next hlk, drop_next hd]
      · rw [htk, List.filter_append, h2]; simp [hg]
    · rw [if_neg hg]
      obtain ⟨a, ha⟩ := lget_lt (l := l) (i := (j : Int)) (by omega) (by omega)
      refine ⟨a, ha, ?_⟩
      apply L2_step
      rw [wrap_succ (by omega), wrap_succ (by omega)]
      have hs : lset l (j : Int) c = l.set j c := by simp [lset]
      rw [hs]
      refine ih (k + 1) (j + 1) (l.set j c) (drop_next hd) (by simp [hl]) ?_ ?_ (by omega) (by omega)
      · rw [List.drop_set_of_lt (by omega), drop_next hlk, drop_next hd]
      · rw [htk, List.filter_append, ← h2, List.take_add_one]
        have e1 : (l.set j c)[j]? = some c := by rw [List.getElem?_set_self (by omega)]
        rw [e1, List.take_set_of_le (by omega)]
        simp [hg]
theorem spec {x0 l0 : List Int} (hu0 : AllU x0) (hu : AllU l0) (hl0 : l0.length < 4611686018427387904) (hn : x0.length < 4611686018427387904) : ∃ b, C x0 l0 (x0.filter (fun a => !goneMaximal l0 a), b) := by
  obtain ⟨q, g1, g2⟩ := slices_IndexFunc_sapi_Set_api_Set_attrset_keep_1_v1.enter x0 l0 (fun r => r = ixI (goneMaximal l0) x0) (by
    refine index_loop (l := x0) (p := goneMaximal l0) (L := fun i => slices_IndexFunc_sapi_Set_api_Set_attrset_keep_1_v1.L1 x0 l0 i _) (φ := fun r => r = ixI (goneMaximal l0) x0) ?_ ?_ rfl
    · intro h; apply slices_IndexFunc_sapi_Set_api_Set_attrset_keep_1_v1.L1_step; rw [if_neg (by omega)]; exact h
    · intro k b hb hk h
      apply slices_IndexFunc_sapi_Set_api_Set_attrset_keep_1_v1.L1_step
      rw [if_pos (by omega)]
      refine ⟨b, lget_of hb, _, attrset_keep_1_v1.spec (hu0 b (List.mem_of_getElem? hb)) hu (by omega), ?_⟩
      rw [wrap_succ (by omega)]; exact h)
  subst g1
  obtain ⟨r, h1, h2⟩ := enter x0 l0 (fun r => r.1 = x0.filter (fun a => !goneMaximal l0 a)) (by
    refine ⟨_, g2, ?_⟩
    rcases ixI_spec (l := x0) (p := goneMaximal l0) with ⟨h1, h2⟩ | ⟨n, c, h1, h4, h5, h3⟩
    · rw [if_pos h1]
      exact (List.filter_eq_self.2 fun a ha => by simp [h2 a ha]).symm
    · have hnl : n < x0.length := (List.getElem?_eq_some_iff.1 h4).1
      rw [if_neg (by omega), h1, wrap_succ (by omega)]
      refine loop (φ := fun r => r.1 = x0.filter (fun a => !goneMaximal l0 a)) hu0 hu hl0 hn (fun b => rfl) _ (n + 1) n x0 rfl rfl rfl ?_ (by omega) (by omega)
      have htk : x0.take (n + 1) = x0.take n ++ [c] := by rw [List.take_add_one, h4]; rfl
      rw [htk, List.filter_append, List.filter_eq_self.2 fun a ha => by simp [h3 a ha]]
      simp [h5])
  obtain ⟨l, b⟩ := r
  simp only at h1
  subst h1
  exact ⟨b, h2⟩
end slices_DeleteFunc_sapi_Set_api_Set_attrset_keep_1_v1
def fMaximal (l : List Int) : List Int := (ordL l).filter fun a => !goneMaximal (ordL l) a
theorem attrset_Maximal.spec {l : List Int} (hl : l.length ≤ 1000000) (hu : AllU l) : attrset_Maximal.C l (fMaximal l) := by
  have hlen := ordL_len (l := l)
  have ho := ordL_all hu
  obtain ⟨b, hb⟩ := slices_DeleteFunc_sapi_Set_api_Set_attrset_keep_1_v1.spec ho ho (by omega) (by omega)
  obtain ⟨q, g1, g2⟩ := attrset_keep_attrset_Maximal_1.enter l (fun r => r = fMaximal l) ⟨_, attrset_Order.spec (by omega) hu, by omega, _, hb, rfl⟩
  subst g1
  obtain ⟨r, h1, h2⟩ := attrset_Maximal.enter l (fun r => r = fMaximal l) ⟨_, g2, rfl⟩
  rw [← h1]; exact h2
theorem drossref02_Maximal.inner {all out : List Int} {i : Nat} {a : Int} {φ : List Int → Prop} (hu : AllU all) (hl : all.length ≤ 1000000) (hlo : out.length ≤ 1000000) (ha : all[i]? = some a) (hnd : all.Nodup) (h : drossref02_Maximal.L1 (if goneMaximal all a = true then out else out ++ [a]) all ((i + 1 : Nat) : Int) φ) : drossref02_Maximal.L2 out all i true 0 φ := by
  have hua := hu a (List.mem_of_getElem? ha)
  have hi : i < all.length := (List.getElem?_eq_some_iff.1 ha).1
  have : ∀ (n k : Nat), all.length - k ≤ n → k ≤ all.length → drossref02_Maximal.L2 out all i (!(all.take k).any fun b => !(a == b) && subB a b) k φ := by
    have fin : ∀ k, k = all.length → drossref02_Maximal.L2 out all i (!(all.take k).any fun b => !(a == b) && subB a b) k φ := fun k hk => by
      apply drossref02_Maximal.L2_step
      subst hk
      rw [if_neg (by omega), List.take_length]
      have e : (all.any fun b => !(a == b) && subB a b) = goneMaximal all a := rfl
      rw [e]
      cases hg : goneMaximal all a with
      | true =>
        rw [hg] at h
        rw [if_neg (by decide)]
        apply drossref02_Maximal.L4_step
        rw [wrap_succ (by omega)]; exact h
      | false =>
        rw [hg] at h
        rw [if_pos (by decide)]
        refine ⟨a, lget_of ha, by omega, ?_⟩
        apply drossref02_Maximal.L4_step
        rw [wrap_succ (by omega)]; exact h
    intro n
    induction n with
    | zero => intro k hn hk; exact fin k (by omega)
    | succ n ih =>
      intro k hn hk
      by_cases hlt : k < all.length
      · have hb : all[k]? = some all[k] := List.getElem?_eq_getElem hlt
        have hub := hu all[k] (List.mem_of_getElem? hb)
        have := ih (k + 1) (by omega) (by omega)
        have htk : all.take (k + 1) = all.take k ++ [all[k]] := by rw [List.take_add_one, hb]; rfl
        rw [htk, List.any_append] at this
        apply drossref02_Maximal.L2_step
        rw [if_pos (by omega)]
        cases hq : (all.take k).any fun b => !(a == b) && subB a b with
        | true =>
          rw [hq, Bool.true_or] at this
          rw [if_neg (by decide)]
          apply drossref02_Maximal.L3_step
          rw [wrap_succ (by omega)]; exact this
        | false =>
          rw [hq, Bool.false_or] at this
          rw [if_pos (by decide)]
          by_cases hki : k = i
          · rw [if_pos (by omega)]
            have hka : all[k] = a := by subst hki; rw [hb] at ha; exact Option.some.inj ha
            apply drossref02_Maximal.L3_step
            rw [wrap_succ (by omega)]
            rw [List.any_cons, List.any_nil, hka, beq_self_eq_true, Bool.not_true, Bool.false_and, Bool.or_false, Bool.not_false] at this
            exact this
          · rw [if_neg (by omega)]
            have hne : ¬ a = all[k] := fun he => hki (by
              have h1 : all[i] = a := by rw [List.getElem?_eq_getElem hi] at ha; exact Option.some.inj ha
              exact ((List.getElem_inj hnd).1 (by rw [h1, ← he])))
            refine ⟨a, lget_of ha, _, lget_of hb, _, subB.spec hua hub, ?_⟩
            apply drossref02_Maximal.L3_step
            rw [wrap_succ (by omega)]
            have hq2 : (a == all[k]) = false := beq_eq_false_iff_ne.2 hne
            rw [List.any_cons, List.any_nil, hq2, Bool.not_false, Bool.true_and, Bool.or_false] at this
            exact this
      · exact fin k (by omega)
  exact this all.length 0 (by omega) (by omega)
theorem drossref02_Maximal.spec {l : List Int} (hl : l.length ≤ 1000000) (hu : AllU l) : drossref02_Maximal.C l (fMaximal l) := by
  have hlen := ordL_len (l := l)
  have ho := ordL_all hu
  have hnd : (ordL l).Nodup := (ordL_asc hu).imp fun {a b} h => fun e => by subst e; omega
  obtain ⟨r, h1, h2⟩ := drossref02_Maximal.enter l (fun r => r = fMaximal l) (by
    refine ⟨_, drossref02_Order.spec (by omega) hu, ?_⟩
    unfold fMaximal
    generalize ordL l = all at *
    have : ∀ (n k : Nat), all.length - k ≤ n → k ≤ all.length → drossref02_Maximal.L1 ((all.take k).filter fun a => !goneMaximal all a) all k (fun r => r = all.filter fun a => !goneMaximal all a) := by
      have fin : ∀ k, k = all.length → drossref02_Maximal.L1 ((all.take k).filter fun a => !goneMaximal all a) all k (fun r => r = all.filter fun a => !goneMaximal all a) := fun k hk => by
        apply drossref02_Maximal.L1_step
        rw [if_neg (by omega)]
        subst hk
        rw [List.take_length]
      intro n
      induction n with
      | zero => intro k hn hk; exact fin k (by omega)
      | succ n ih =>
        intro k hn hk
        by_cases hlt : k < all.length
        · have hb : all[k]? = some all[k] := List.getElem?_eq_getElem hlt
          have := ih (k + 1) (by omega) (by omega)
          have htk : all.take (k + 1) = all.take k ++ [all[k]] := by rw [List.take_add_one, hb]; rfl
          rw [htk, List.filter_append] at this
          apply drossref02_Maximal.L1_step
          rw [if_pos (by omega)]
          refine drossref02_Maximal.inner ho (by omega) (Nat.le_trans (List.length_filter_le _ _) (by rw [List.length_take]; omega)) hb hnd ?_
          cases hg : goneMaximal all all[k] with
          | true => simpa [hg] using this
          | false => simpa [hg] using this
        · exact fin k (by omega)
    exact this all.length 0 (by omega) (by omega))
  rw [← h1]; exact h2
end Go.Own

namespace Go.Own
theorem drosslaw02_sets.spec {l : List Int} (hl : l.length < 1000000000) : drosslaw02_sets.C l l := by
  obtain ⟨r, h1, h2⟩ := drosslaw02_sets.enter l (fun r => r = l) (by
    have : ∀ (r : List Int) (k : Nat) (s : List Int), l.drop k = r → s ++ r = l → drosslaw02_sets.L1 l s k (fun r => r = l) := by
      intro r
      induction r with
      | nil =>
        intro k s hd he
        apply drosslaw02_sets.L1_step
        have := drop_ge hd
        rw [if_neg (by omega)]; simpa using he
      | cons a r ih =>
        intro k s hd he
        have hlt := drop_lt hd
        have hs : s.length ≤ l.length := by rw [← he]; simp
        apply drosslaw02_sets.L1_step
        rw [if_pos (by omega)]
        refine ⟨a, lget_drop hd, by omega, ?_⟩
        rw [wrap_succ (by omega)]
        exact ih _ _ (drop_next hd) (by simpa using he)
    exact this l 0 [] rfl rfl)
  rw [h1] at h2; exact h2
end Go.Own

namespace Go.Own
theorem subB_refl (a : Int) : subB a a = true := by unfold subB; rw [Nat.and_self]; exact decide_eq_true rfl
theorem subB_trans {a b c : Int} (h1 : subB a b = true) (h2 : subB b c = true) : subB a c = true := by
  unfold subB at *
  rw [decide_eq_true_iff, sub_iff] at *
  exact fun i hi => h2 i (h1 i hi)
theorem subB_le {a b : Int} (h : subB a b = true) : sN a ≤ sN b := by
  unfold subB at h
  rw [decide_eq_true_iff] at h
  exact sub_le h
theorem minimal_below {l : List Int} (hu : AllU l) (n : Nat) : ∀ a ∈ l, sN a ≤ n → ∃ b ∈ fMinimal l, subB b a = true := by
  have ho := ordL_all hu
  induction n with
  | zero =>
    intro a ha hn
    refine ⟨a, ?_, subB_refl a⟩
    unfold fMinimal
    rw [List.mem_filter, ordL_mem hu]
    refine ⟨ha, ?_⟩
    rw [Bool.not_eq_true', ← Bool.not_eq_true]
    intro hg
    obtain ⟨b, hb, hc⟩ := List.any_eq_true.1 hg
    rw [Bool.and_eq_true, Bool.not_eq_true', beq_eq_false_iff_ne] at hc
    have := subB_le hc.2
    exact hc.1 (U32.ext (hu a ha) (ho b hb) (by omega))
  | succ n ih =>
    intro a ha hn
    by_cases hg : goneMinimal (ordL l) a = true
    · obtain ⟨b, hb, hc⟩ := List.any_eq_true.1 hg
      rw [Bool.and_eq_true, Bool.not_eq_true', beq_eq_false_iff_ne] at hc
      have h1 := subB_le hc.2
      have h2 : sN a ≠ sN b := fun h => hc.1 (U32.ext (hu a ha) (ho b hb) h)
      obtain ⟨c, hc1, hc2⟩ := ih b ((ordL_mem hu b).1 hb) (by omega)
      exact ⟨c, hc1, subB_trans hc2 hc.2⟩
    · refine ⟨a, ?_, subB_refl a⟩
      unfold fMinimal
      rw [List.mem_filter, ordL_mem hu]
      exact ⟨ha, by rw [Bool.not_eq_true', ← Bool.not_eq_true]; exact hg⟩
theorem maximal_above {l : List Int} (hu : AllU l) (n : Nat) : ∀ a ∈ l, 4294967296 - sN a ≤ n → ∃ b ∈ fMaximal l, subB a b = true := by
  have ho := ordL_all hu
  induction n with
  | zero =>
    intro a ha hn
    have := (hu a ha).lt
    omega
  | succ n ih =>
    intro a ha hn
    by_cases hg : goneMaximal (ordL l) a = true
    · obtain ⟨b, hb, hc⟩ := List.any_eq_true.1 hg
      rw [Bool.and_eq_true, Bool.not_eq_true', beq_eq_false_iff_ne] at hc
      have h1 := subB_le hc.2
      have h2 : sN a ≠ sN b := fun h => hc.1 (U32.ext (hu a ha) (ho b hb) h)
      have h3 := (ho b hb).lt
      obtain ⟨c, hc1, hc2⟩ := ih b ((ordL_mem hu b).1 hb) (by omega)
      exact ⟨c, hc1, subB_trans hc.2 hc2⟩
    · refine ⟨a, ?_, subB_refl a⟩
      unfold fMaximal
      rw [List.mem_filter, ordL_mem hu]
      exact ⟨ha, by rw [Bool.not_eq_true', ← Bool.not_eq_true]; exact hg⟩
theorem drosslaw02_AttrsetMinimal_1.spec {a b : Int} (ha : U32 a) (hb : U32 b) : drosslaw02_AttrsetMinimal_1.C b a (subB b a) := by
  obtain ⟨r, h1, h2⟩ := drosslaw02_AttrsetMinimal_1.enter b a (fun r => r = subB b a) ⟨_, subB.spec hb ha, rfl⟩
  rw [← h1]; exact h2
theorem drosslaw02_AttrsetMinimal_2.spec {a b : Int} (ha : U32 a) (hb : U32 b) : drosslaw02_AttrsetMinimal_2.C b a (subB a b) := by
  obtain ⟨r, h1, h2⟩ := drosslaw02_AttrsetMinimal_2.enter b a (fun r => r = subB a b) ⟨_, subB.spec ha hb, rfl⟩
  rw [← h1]; exact h2
theorem slices_ContainsFunc_sapi_Set_api_Set_drosslaw02_AttrsetMinimal_1.spec {l : List Int} {a : Int} (ha : U32 a) (hu : AllU l) (hl : l.length < 9223372036854775807) : slices_ContainsFunc_sapi_Set_api_Set_drosslaw02_AttrsetMinimal_1.C l a (l.any fun b => subB b a) := by
  obtain ⟨q, g1, g2⟩ := slices_IndexFunc_sapi_Set_api_Set_drosslaw02_AttrsetMinimal_1.enter l a (fun r => r = ixI (fun b => subB b a) l) (by
    refine index_loop (l := l) (p := fun b => subB b a) (L := fun i => slices_IndexFunc_sapi_Set_api_Set_drosslaw02_AttrsetMinimal_1.L1 l a i _) (φ := fun r => r = ixI (fun b => subB b a) l) ?_ ?_ rfl
    · intro h; apply slices_IndexFunc_sapi_Set_api_Set_drosslaw02_AttrsetMinimal_1.L1_step; rw [if_neg (by omega)]; exact h
    · intro k b hb hk h
      apply slices_IndexFunc_sapi_Set_api_Set_drosslaw02_AttrsetMinimal_1.L1_step
      rw [if_pos (by omega)]
      refine ⟨b, lget_of hb, _, drosslaw02_AttrsetMinimal_1.spec ha (hu b (List.mem_of_getElem? hb)), ?_⟩
      rw [wrap_succ (by omega)]; exact h)
  subst g1
  obtain ⟨r, h1, h2⟩ := slices_ContainsFunc_sapi_Set_api_Set_drosslaw02_AttrsetMinimal_1.enter l a (fun r => r = l.any fun b => subB b a) ⟨_, g2, ixI_any⟩
  rw [← h1]; exact h2
theorem slices_ContainsFunc_sapi_Set_api_Set_drosslaw02_AttrsetMinimal_2.spec {l : List Int} {a : Int} (ha : U32 a) (hu : AllU l) (hl : l.length < 9223372036854775807) : slices_ContainsFunc_sapi_Set_api_Set_drosslaw02_AttrsetMinimal_2.C l a (l.any fun b => subB a b) := by
  obtain ⟨q, g1, g2⟩ := slices_IndexFunc_sapi_Set_api_Set_drosslaw02_AttrsetMinimal_2.enter l a (fun r => r = ixI (fun b => subB a b) l) (by
    refine index_loop (l := l) (p := fun b => subB a b) (L := fun i => slices_IndexFunc_sapi_Set_api_Set_drosslaw02_AttrsetMinimal_2.L1 l a i _) (φ := fun r => r = ixI (fun b => subB a b) l) ?_ ?_ rfl
    · intro h; apply slices_IndexFunc_sapi_Set_api_Set_drosslaw02_AttrsetMinimal_2.L1_step; rw [if_neg (by omega)]; exact h
    · intro k b hb hk h
      apply slices_IndexFunc_sapi_Set_api_Set_drosslaw02_AttrsetMinimal_2.L1_step
      rw [if_pos (by omega)]
      refine ⟨b, lget_of hb, _, drosslaw02_AttrsetMinimal_2.spec ha (hu b (List.mem_of_getElem? hb)), ?_⟩
      rw [wrap_succ (by omega)]; exact h)
  subst g1
  obtain ⟨r, h1, h2⟩ := slices_ContainsFunc_sapi_Set_api_Set_drosslaw02_AttrsetMinimal_2.enter l a (fun r => r = l.any fun b => subB a b) ⟨_, g2, ixI_any⟩
  rw [← h1]; exact h2
namespace drosslaw02_AttrsetMinimal
theorem again {φ : Bool → Prop} (h : φ true) : L2 φ := L2_step φ ⟨true, drosslaw02_awake.spec, h⟩
theorem loop {l : List Int} (hu : AllU l) (hl : l.length ≤ 30) {φ : Bool → Prop} (h : φ true) : ∀ (r : List Int) (k : Nat), l.drop k = r → L1 (fMinimal l) (fMaximal l) l k φ := by
  have ho := ordL_all hu
  have hol := ordL_len (l := l)
  have h1 : AllU (fMinimal l) := fun y hy => ho y (List.mem_filter.1 hy).1
  have h2 : AllU (fMaximal l) := fun y hy => ho y (List.mem_filter.1 hy).1
  have l1 : (fMinimal l).length ≤ (ordL l).length := List.length_filter_le _ _
  have l2 : (fMaximal l).length ≤ (ordL l).length := List.length_filter_le _ _
  intro r
  induction r with
  | nil =>
    intro k hd
    apply L1_step
    have := drop_ge hd
    rw [if_neg (by omega)]; exact h
  | cons a r ih =>
    intro k hd
    have hlt := drop_lt hd
    have hal : a ∈ l := List.mem_of_getElem? (drop_get hd)
    have ha := hu a hal
    apply L1_step
    rw [if_pos (by omega)]
    refine ⟨a, lget_drop hd, _, slices_ContainsFunc_sapi_Set_api_Set_drosslaw02_AttrsetMinimal_1.spec ha h1 (by omega), _, slices_ContainsFunc_sapi_Set_api_Set_drosslaw02_AttrsetMinimal_2.spec ha h2 (by omega), ?_⟩
    rw [if_pos (List.any_eq_true.2 (minimal_below hu (sN a) a hal (Nat.le_refl _))), if_pos (List.any_eq_true.2 (maximal_above hu _ a hal (Nat.le_refl _)))]
    rw [wrap_succ (by omega)]
    exact ih _ (drop_next hd)
theorem spec (l : List Int) (hu : AllU l) : C l true := by
  obtain ⟨r, h1, h2⟩ := enter l (fun r => r = true) (by
    refine ⟨true, drosslaw02_awake.spec, ?_⟩
    rw [if_pos rfl]
    split
    · exact again rfl
    · have hol := ordL_len (l := l)
      have l1 : (fMinimal l).length ≤ (ordL l).length := List.length_filter_le _ _
      have l2 : (fMaximal l).length ≤ (ordL l).length := List.length_filter_le _ _
      refine ⟨_, drosslaw02_sets.spec (by omega), _, attrset_Minimal.spec (by omega) hu, _, drosslaw02_sets.spec (by omega), _, attrset_Maximal.spec (by omega) hu, _, drosslaw02_sets.spec (by omega), _, drossref02_Minimal.spec (by omega) hu, _, drossref02_Same.spec (by omega), ?_⟩
      rw [if_pos (decide_eq_true rfl)]
      refine ⟨_, drosslaw02_sets.spec (by omega), _, drossref02_Maximal.spec (by omega) hu, _, drossref02_Same.spec (by omega), ?_⟩
      rw [if_pos (decide_eq_true rfl)]
      exact ⟨_, drosslaw02_sets.spec (by omega), loop (φ := fun r => r = true) hu (by omega) (Eq.refl _) l 0 rfl⟩)
  subst h1; exact h2
theorem law {xs : List D} (hx : TyAll env.P drosslaw02_AttrsetMinimal_K drosslaw02_AttrsetMinimal_T xs) : Ret env drosslaw02_AttrsetMinimal_F xs (.lit (.bool true)) [] :=
  drosslaw02_AttrsetMinimal_of (fun x0 h0 => spec x0 (fun d hd => u32_of (h0.2 d hd))) hx
end drosslaw02_AttrsetMinimal
end Go.Own
