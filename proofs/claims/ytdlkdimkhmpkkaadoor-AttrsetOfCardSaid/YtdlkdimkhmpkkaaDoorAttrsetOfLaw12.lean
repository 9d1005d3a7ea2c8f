/- What the functions that the law reaches answer. No conditions. -/
import Derived.Test.YtdlkdimkhmpkkaaDoorAttrsetOfLaw10
import Derived.Test.YtdlkdimkhmpkkaaDoorAttrsetOfLaw11
import Derived.Test.YtdlkdimkhmpkkaaDoorAttrsetOfLaw7
import Derived.Test.YtdlkdimkhmpkkaaDoorAttrsetOfLaw4
import Derived.Test.YtdlkdimkhmpkkaaDoorAttrsetOfLaw1
import Derived.Test.YtdlkdimkhmpkkaaDoorAttrsetOfLaw3
set_option linter.all false

namespace Go.Own
def ltS (x y : Int) : Bool := decide (keyS x < keyS y)
theorem ltS_swo : Go.Sort.SWO ltS where
  irrefl := fun x => by unfold ltS; simp
  trans := fun x y z h1 h2 => by unfold ltS at *; simp only [decide_eq_true_eq] at *; omega
  ntrans := fun x y z h1 h2 => by unfold ltS at *; simp only [decide_eq_false_iff_not] at *; omega
def cmpI (x y : Int) : Int := if x < y then -1 else if y < x then 1 else 0
theorem cmp_Compare_int.spec {x y : Int} : cmp_Compare_int.C x y (cmpI x y) := by
  obtain ⟨f1, g1, k1⟩ := cmp_isNaN_int.enter x (fun r => r = false) (by simp)
  obtain ⟨f2, g2, k2⟩ := cmp_isNaN_int.enter y (fun r => r = false) (by simp)
  subst g1 g2
  obtain ⟨r, h1, h2⟩ := cmp_Compare_int.enter x y (fun r => r = cmpI x y) (by
    refine ⟨_, k1, _, k2, ?_⟩
    rw [if_neg (by decide), if_neg (by decide)]
    unfold cmpI
    split
    · rfl
    · split <;> rfl)
  rw [← h1]; exact h2
theorem cmp_Compare_api_Set.spec {x y : Int} : cmp_Compare_api_Set.C x y (cmpI x y) := by
  obtain ⟨f1, g1, k1⟩ := cmp_isNaN_api_Set.enter x (fun r => r = false) (by simp)
  obtain ⟨f2, g2, k2⟩ := cmp_isNaN_api_Set.enter y (fun r => r = false) (by simp)
  subst g1 g2
  obtain ⟨r, h1, h2⟩ := cmp_Compare_api_Set.enter x y (fun r => r = cmpI x y) (by
    refine ⟨_, k1, _, k2, ?_⟩
    rw [if_neg (by decide), if_neg (by decide)]
    unfold cmpI
    split
    · rfl
    · split <;> rfl)
  rw [← h1]; exact h2
theorem cmp_Or_int.two {a b : Int} : cmp_Or_int.C [a, b] (if a = 0 then b else a) := by
  obtain ⟨r, h1, h2⟩ := cmp_Or_int.enter [a, b] (fun r => r = if a = 0 then b else a) (by
    apply cmp_Or_int.L1_step
    rw [if_pos (by simp)]
    refine ⟨a, rfl, ?_⟩
    by_cases ha : a = 0
    · rw [if_pos ha]
      apply cmp_Or_int.L1_step
      have e : IntKind.wrap .i64 ((0 : Int) + 1) = 1 := by decide
      rw [e, if_pos (by simp)]
      refine ⟨b, rfl, ?_⟩
      by_cases hb : b = 0
      · rw [if_pos hb]
        apply cmp_Or_int.L1_step
        have e : IntKind.wrap .i64 ((1 : Int) + 1) = 2 := by decide
        rw [e, if_neg (by simp), if_pos ha, hb]
      · rw [if_neg hb, if_pos ha]
    · rw [if_neg ha, if_neg ha])
  rw [← h1]; exact h2
theorem cmpS_ok : CmpOK U32 ltS attrset_compare.C := fun x y hx hy => by
  obtain ⟨r, h1, h2⟩ := attrset_compare.enter x y (fun r => r < 0 ↔ ltS x y = true) (by
    refine ⟨_, attrset_Size.spec hx, _, attrset_Size.spec hy, _, cmp_Compare_int.spec, _, cmp_Compare_api_Set.spec, _, cmp_Or_int.two, ?_⟩
    unfold ltS
    rw [decide_eq_true_eq, keyS_lt hx hy]
    have ex := hx.eq
    have ey := hy.eq
    unfold cmpI
    generalize szN (sN x) = s at *
    generalize szN (sN y) = t at *
    by_cases h1 : (s : Int) < t
    · rw [if_pos h1, if_neg (by decide)]; omega
    · rw [if_neg h1]
      by_cases h2 : (t : Int) < s
      · rw [if_pos h2, if_neg (by decide)]; omega
      · rw [if_neg h2, if_pos rfl]
        split
        · omega
        · split <;> omega)
  exact ⟨r, h2, h1⟩
end Go.Own

namespace Go.Own
theorem compactL_snoc : ∀ (l : List Int) (a b : Int), compactL (l ++ [a] ++ [b]) = if a = b then compactL (l ++ [a]) else compactL (l ++ [a]) ++ [b]
  | [], a, b => by
    simp only [List.nil_append, List.singleton_append, compactL]
    split <;> simp_all
  | [c], a, b => by
    simp only [List.singleton_append, List.cons_append, List.nil_append, compactL]
    split <;> split <;> simp_all
  | c :: d :: r, a, b => by
    have ih := compactL_snoc (d :: r) a b
    simp only [List.cons_append, compactL] at ih ⊢
    rw [ih]
    split <;> split <;> simp
theorem take_snoc {l : List Int} {m : Nat} {a : Int} (h : l[m]? = some a) : l.take (m + 1) = l.take m ++ [a] := by
  rw [List.take_add_one, h]; rfl
theorem compact_step {l : List Int} {m : Nat} {a b : Int} (ha : l[m]? = some a) (hb : l[m + 1]? = some b) : compactL (l.take (m + 2)) = if a = b then compactL (l.take (m + 1)) else compactL (l.take (m + 1)) ++ [b] := by
  have e1 : l.take (m + 2) = l.take m ++ [a] ++ [b] := by rw [take_snoc (m := m + 1) hb, take_snoc ha]
  rw [e1, take_snoc ha, compactL_snoc]
namespace slices_Compact_sapi_Set_api_Set
theorem inner {l : List Int} {o : Nat} {φ : List Int × Bool → Prop} (ho : 1 ≤ o) (hol : o < l.length) (hl : l.length < 4611686018427387904) (h : ∀ b, φ (compactL l, b)) (n : Nat) : ∀ (s : List Int) (k k2 : Nat), l.length - o - k2 ≤ n → 1 ≤ k2 → o + k2 ≤ l.length → s.length = l.length → k ≤ o + k2 - 1 → s.take k = compactL (l.take (o + k2)) → (∀ i, o + k2 - 1 ≤ i → s[i]? = l[i]?) → L2 s k o (l.length - o) k2 φ := by
  have hend : ∀ (s : List Int) (k k2 : Nat), o + k2 = l.length → s.length = l.length → k ≤ o + k2 - 1 → s.take k = compactL (l.take (o + k2)) → L2 s k o (l.length - o) k2 φ := fun s k k2 hk2 hs hk ht => by
    apply L2_step
    refine ⟨by omega, ?_⟩
    rw [if_neg (by rw [List.length_take, List.length_drop]; omega)]
    refine ⟨by omega, ⟨by omega, by omega⟩, by omega, by omega, by omega, by omega, ⟨by omega, by omega, by omega⟩, ?_⟩
    rw [Int.toNat_natCast]
    have e : s.take k = compactL l := by rw [ht, List.take_of_length_le (by omega)]
    rw [e]
    exact h _
  induction n with
  | zero => intro s k k2 hn h1 hk2 hs hk ht hd; exact hend s k k2 (by omega) hs hk ht
  | succ n ih =>
    intro s k k2 hn h1 hk2 hs hk ht hd
    by_cases hlt : o + k2 < l.length
    · apply L2_step
      refine ⟨by omega, ?_⟩
      rw [if_pos (by rw [List.length_take, List.length_drop]; omega)]
      obtain ⟨b, hb⟩ : ∃ b, l[o + k2]? = some b := ⟨_, List.getElem?_eq_getElem hlt⟩
      obtain ⟨a, ha⟩ : ∃ a, l[o + k2 - 1]? = some a := ⟨_, List.getElem?_eq_getElem (by omega)⟩
      have e1 : (o : Int) + (k2 : Int) = ((o + k2 : Nat) : Int) := by omega
      have e2 : IntKind.wrap .i64 ((k2 : Int) - 1) = ((k2 - 1 : Nat) : Int) := wx _ _ (by omega) (by omega)
      have e3 : (o : Int) + ((k2 - 1 : Nat) : Int) = ((o + k2 - 1 : Nat) : Int) := by omega
      have e4 : IntKind.wrap .i64 ((k2 : Int) + 1) = ((k2 + 1 : Nat) : Int) := wx _ _ (by omega) (by omega)
      have e5 : IntKind.wrap .i64 ((k : Int) + 1) = ((k + 1 : Nat) : Int) := wx _ _ (by omega) (by omega)
      rw [e1, e2, e3]
      have hstep := compact_step (l := l) (m := o + k2 - 1) ha (by rw [show o + k2 - 1 + 1 = o + k2 by omega]; exact hb)
      rw [show o + k2 - 1 + 2 = o + (k2 + 1) by omega, show o + k2 - 1 + 1 = o + k2 by omega] at hstep
      refine ⟨b, by rw [lget_nat, hd _ (by omega)]; exact hb, ⟨by omega, by omega⟩, by omega, a, by rw [lget_nat, hd _ (by omega)]; exact ha, ⟨by omega, by omega⟩, by omega, ?_⟩
      by_cases hab : b = a
      · rw [if_pos hab]
        apply L3_step
        rw [e4]
        rw [if_pos hab.symm] at hstep
        exact ih s k (k2 + 1) (by omega) (by omega) (by omega) hs (by omega) (by rw [ht, hstep]) (fun i hi => hd i (by omega))
      · rw [if_neg hab]
        rw [if_neg (fun h => hab h.symm)] at hstep
        obtain ⟨c, hc⟩ : ∃ c, s[k]? = some c := ⟨_, List.getElem?_eq_getElem (by omega)⟩
        refine ⟨⟨by omega, by omega⟩, by omega, c, by rw [lget_nat]; exact hc, ?_⟩
        apply L3_step
        rw [e4, e5]
        have hls : lset s (k : Int) b = s.set k b := by unfold lset; rw [Int.toNat_natCast]
        rw [hls]
        refine ih (s.set k b) (k + 1) (k2 + 1) (by omega) (by omega) (by omega) (by rw [List.length_set]; exact hs) (by omega) ?_ (fun i hi => ?_)
        · rw [hstep, ← ht, take_snoc (a := b) (by rw [List.getElem?_set_self (by omega)])]
          congr 1
          rw [List.take_set_of_le (Nat.le_refl k)]
        · rw [List.getElem?_set_ne (by omega)]
          exact hd i (by omega)
    · exact hend s k k2 (by omega) hs hk ht
theorem outer {l : List Int} {φ : List Int × Bool → Prop} (hl : l.length < 4611686018427387904) (h : ∀ b, φ (compactL l, b)) (n : Nat) : ∀ i, l.length - i ≤ n → 1 ≤ i → i ≤ l.length → compactL (l.take i) = l.take i → L1 l i φ := by
  induction n with
  | zero =>
    intro i hn h1 hi hc
    apply L1_step
    rw [if_neg (by omega)]
    have e : i = l.length := by omega
    rw [e, List.take_length] at hc
    have := h true
    rwa [hc] at this
  | succ n ih =>
    intro i hn h1 hi hc
    by_cases hlt : i < l.length
    · apply L1_step
      rw [if_pos (by omega)]
      obtain ⟨b, hb⟩ : ∃ b, l[i]? = some b := ⟨_, List.getElem?_eq_getElem hlt⟩
      obtain ⟨a, ha⟩ : ∃ a, l[i - 1]? = some a := ⟨_, List.getElem?_eq_getElem (by omega)⟩
      have e2 : IntKind.wrap .i64 ((i : Int) - 1) = ((i - 1 : Nat) : Int) := wx _ _ (by omega) (by omega)
      have e4 : IntKind.wrap .i64 ((i : Int) + 1) = ((i + 1 : Nat) : Int) := wx _ _ (by omega) (by omega)
      rw [e2, e4]
      have hstep := compact_step (l := l) (m := i - 1) ha (by rw [show i - 1 + 1 = i by omega]; exact hb)
      rw [show i - 1 + 2 = i + 1 by omega, show i - 1 + 1 = i by omega] at hstep
      refine ⟨b, by rw [lget_nat]; exact hb, a, by rw [lget_nat]; exact ha, ?_⟩
      by_cases hab : b = a
      · rw [if_pos hab]
        rw [if_pos hab.symm] at hstep
        refine ⟨by omega, ⟨by omega, by omega⟩, ?_⟩
        rw [Int.toNat_natCast]
        exact inner (o := i) h1 hlt hl h (l.length - i - 1) l i 1 (Nat.le_refl _) (Nat.le_refl _) (by omega) rfl (by omega) (by rw [hstep, hc]) (fun _ _ => rfl)
      · rw [if_neg hab]
        rw [if_neg (fun h => hab h.symm)] at hstep
        exact ih (i + 1) (by omega) (by omega) (by omega) (by rw [hstep, hc, take_snoc hb])
    · apply L1_step
      rw [if_neg (by omega)]
      have e : i = l.length := by omega
      rw [e, List.take_length] at hc
      have := h true
      rwa [hc] at this
theorem spec {l : List Int} (hl : l.length < 4611686018427387904) : ∃ b, C l (compactL l, b) := by
  obtain ⟨r, ⟨b, rfl⟩, h2⟩ := enter l (fun r => ∃ b, r = (compactL l, b)) (by
    split
    · rename_i h
      refine ⟨true, ?_⟩
      match l, h with
      | [], _ => rfl
      | [a], _ => rfl
      | _ :: _ :: _, h => simp at h; omega
    · rename_i h
      have : 1 ≤ l.length := by omega
      exact outer hl (fun b => ⟨b, rfl⟩) (l.length - 1) 1 (by omega) (by omega) this (by
        obtain ⟨a, r, rfl⟩ : ∃ a r, l = a :: r := by cases l with
          | nil => simp at this
          | cons a r => exact ⟨a, r, rfl⟩
        rfl))
  exact ⟨b, h2⟩
end slices_Compact_sapi_Set_api_Set
end Go.Own

namespace Go.Own
theorem attrset_Order.spec {l : List Int} (hl : l.length ≤ 35184372088832) (hu : AllU l) : attrset_Order.C l (ordL l) := by
  obtain ⟨r, h1, h2⟩ := attrset_Order.enter l (fun r => r = ordL l) (by
    obtain ⟨s, c, hp, ha⟩ := slices_SortFunc_sapi_Set_api_Set_attrset_compare.spec cmpS_ok ltS_swo (l := l) (by omega) hu
    have hlen := hp.length_eq
    obtain ⟨b, c2⟩ := slices_Compact_sapi_Set_api_Set.spec (l := s) (by omega)
    refine ⟨by omega, s, c, _, c2, ?_⟩
    have hus : AllU s := fun x hx => hu x (hp.mem_iff.1 hx)
    refine ordL_eq hu (compactL_asc hus (ha.imp fun h => ?_)) fun y => by rw [compactL_mem, hp.mem_iff]
    unfold ltS at h
    simp only [decide_eq_false_iff_not] at h
    omega)
  rw [← h1]; exact h2
theorem drossref02_In.spec {l : List Int} {x : Int} (hl : l.length < 9223372036854775807) : drossref02_In.C l x (decide (x ∈ l)) := by
  obtain ⟨r, h1, h2⟩ := drossref02_In.enter l x (fun r => r = decide (x ∈ l)) (by
    have e : decide (x ∈ l) = l.any fun a => a == x := by
      rw [Bool.eq_iff_iff]
      simp
    rw [e]
    refine any_loop (l := l) (p := fun a => a == x) (L := fun i => drossref02_In.L1 l x i _) (φ := fun r => r = l.any fun a => a == x) ?_ ?_ rfl
    · intro h; apply drossref02_In.L1_step; rw [if_neg (by omega)]; exact h
    · intro k a ha hk h
      apply drossref02_In.L1_step
      rw [if_pos (by omega)]
      refine ⟨a, lget_of ha, ?_⟩
      rw [wrap_succ (by omega)]
      by_cases hax : a = x
      · rw [if_pos hax]; rw [if_pos (by simpa using hax)] at h; exact h
      · rw [if_neg hax]; rw [if_neg (by simpa using hax)] at h; exact h)
  rw [← h1]; exact h2
theorem drossref02_Same.spec {l m : List Int} (hl : l.length < 9223372036854775807) : drossref02_Same.C l m (decide (l = m)) := by
  obtain ⟨r, h1, h2⟩ := drossref02_Same.enter l m (fun r => r = decide (l = m)) (by
    by_cases hlm : l.length = m.length
    · rw [if_pos (by omega)]
      have : ∀ (n k : Nat), l.length - k ≤ n → k ≤ l.length → l.take k = m.take k → drossref02_Same.L1 l m k (fun r => r = decide (l = m)) := by
        intro n
        induction n with
        | zero =>
          intro k hn hk ht
          apply drossref02_Same.L1_step
          rw [if_neg (by omega)]
          have e : k = l.length := by omega
          rw [e, List.take_length, hlm, List.take_length] at ht
          simp [ht]
        | succ n ih =>
          intro k hn hk ht
          by_cases hlt : k < l.length
          · apply drossref02_Same.L1_step
            rw [if_pos (by omega)]
            have ha : l[k]? = some l[k] := List.getElem?_eq_getElem hlt
            have hb : m[k]? = some m[k] := List.getElem?_eq_getElem (by omega)
            refine ⟨_, lget_of ha, _, lget_of hb, ?_⟩
            rw [wrap_succ (by omega)]
            by_cases hab : l[k] = m[k]
            · rw [if_pos hab]
              exact ih (k + 1) (by omega) (by omega) (by rw [take_snoc ha, take_snoc hb, ht, hab])
            · rw [if_neg hab]
              have : ¬ l = m := fun h => by subst h; exact hab rfl
              simp [this]
          · apply drossref02_Same.L1_step
            rw [if_neg (by omega)]
            have e : k = l.length := by omega
            rw [e, List.take_length, hlm, List.take_length] at ht
            simp [ht]
      exact this l.length 0 (by omega) (by omega) (by simp)
    · rw [if_neg (by omega)]
      have : ¬ l = m := fun h => hlm (by rw [h])
      simp [this])
  rw [← h1]; exact h2
theorem drossref02_Size.spec {x : Int} (hx : U32 x) : drossref02_Size.C x (szN (sN x) : Int) := by
  have := drossref02_Members.spec hx.lt
  rw [← hx.eq] at this
  obtain ⟨r, h1, h2⟩ := drossref02_Size.enter x (fun r => r = (szN (sN x) : Int)) ⟨_, this, by rw [List.length_map]; rfl⟩
  rw [← h1]; exact h2
theorem drossref02_Before.spec {x y : Int} (hx : U32 x) (hy : U32 y) : drossref02_Before.C x y (ltS x y) := by
  obtain ⟨r, h1, h2⟩ := drossref02_Before.enter x y (fun r => r = ltS x y) (by
    refine ⟨_, drossref02_Size.spec hx, _, drossref02_Size.spec hy, ?_⟩
    have ex := hx.eq
    have ey := hy.eq
    have hk := keyS_lt hx hy
    unfold ltS
    split
    · rename_i h
      rw [decide_eq_decide, hk]
      omega
    · rename_i h
      refine ⟨_, drossref02_Size.spec hx, _, drossref02_Size.spec hy, ?_⟩
      rw [decide_eq_decide, hk]
      omega)
  rw [← h1]; exact h2
theorem set_swap {p q : List Int} {b x : Int} : lset (lset (p ++ [b] ++ x :: q) ((p.length + 1 : Nat) : Int) b) ((p.length : Nat) : Int) x = p ++ x :: b :: q := by
  unfold lset
  rw [Int.toNat_natCast, Int.toNat_natCast, List.append_assoc, List.singleton_append]
  induction p with
  | nil => rfl
  | cons a p ih =>
    simp only [List.cons_append, List.length_cons, List.set_cons_succ]
    exact congrArg _ ih
theorem drossref02_Order.place {l : List Int} {x : Int} {i : Nat} {φ : List Int → Prop} (hx : U32 x) {out : List Int} (hu : AllU out) (ha : Asc out) (hn : x ∉ out) (hl : out.length < 9223372036854775800) (h : drossref02_Order.L3 l (insS x out) i φ) : ∀ (n : Nat) (p q : List Int), p.length = n → p ++ q = out → (∀ y ∈ q, keyS x < keyS y) → drossref02_Order.L2 l (p ++ x :: q) i n φ := by
  have fin : ∀ p q : List Int, p ++ q = out → (∀ y ∈ q, keyS x < keyS y) → (∀ y ∈ p, keyS y < keyS x) → insS x out = p ++ x :: q := fun p q hpq hq hp => by
    refine asc_ext keyS (insS_asc hx hu ha) ?_ fun y => ?_
    · subst hpq
      have ha : List.Pairwise (fun a b => keyS a < keyS b) (p ++ q) := ha
      rw [List.pairwise_append] at ha ⊢
      refine ⟨ha.1, List.pairwise_cons.2 ⟨hq, ha.2.1⟩, fun a h1 b h2 => ?_⟩
      rcases List.mem_cons.1 h2 with rfl | h2
      · exact hp a h1
      · exact ha.2.2 a h1 b h2
    · rw [insS_mem hx hu, ← hpq, List.mem_append, List.mem_append, List.mem_cons]
      constructor
      · rintro (h | h | h) <;> simp [h]
      · rintro (h | h | h) <;> simp [h]
  intro n
  induction n with
  | zero =>
    intro p q hp hpq hq
    apply drossref02_Order.L2_step
    rw [if_neg (by omega)]
    have := fin p q hpq hq (by have := List.eq_nil_of_length_eq_zero hp; subst this; simp)
    rwa [this] at h
  | succ n ih =>
    intro p q hp hpq hq
    apply drossref02_Order.L2_step
    rw [if_pos (by omega)]
    obtain ⟨p', b, rfl⟩ : ∃ p' b, p = p' ++ [b] := by
      have : p ≠ [] := fun h => by subst h; simp at hp
      exact ⟨p.dropLast, p.getLast this, (List.dropLast_concat_getLast this).symm⟩
    have hp' : p'.length = n := by simpa using hp
    have hlen : p'.length + 1 + q.length = out.length := by rw [← hpq]; simp; omega
    have hub : U32 b := hu b (by rw [← hpq]; simp)
    have e1 : IntKind.wrap .i64 (((n + 1 : Nat) : Int) - 1) = (n : Int) := wx _ _ (by omega) (by omega)
    rw [e1]
    refine ⟨x, ?_, b, ?_, _, drossref02_Before.spec hx hub, ?_⟩
    · rw [lget_nat, List.getElem?_append_right (by simp; omega)]
      simp [hp']
    · rw [lget_nat, List.getElem?_append_left (by simp; omega), List.getElem?_append_right (by omega)]
      simp [hp']
    · by_cases hlt : ltS x b = true
      · rw [if_pos hlt]
        have hltk : keyS x < keyS b := by simpa [ltS] using hlt
        obtain ⟨z, hz⟩ : ∃ z, lget (lset (p' ++ [b] ++ x :: q) ((n + 1 : Nat) : Int) b) (n : Int) = some z := lget_lt (by omega) (by rw [lset_length]; simp; omega)
        refine ⟨z, hz, ?_⟩
        have hsw := set_swap (p := p') (q := q) (b := b) (x := x)
        rw [hp'] at hsw
        rw [hsw]
        refine ih p' (b :: q) hp' (by rw [← hpq]; simp) fun y hy => ?_
        rcases List.mem_cons.1 hy with rfl | hy
        · exact hltk
        · exact hq y hy
      · rw [if_neg hlt]
        have hnlt : ¬ keyS x < keyS b := by simpa [ltS] using hlt
        have hne : keyS x ≠ keyS b := fun he => by
          have := keyS_inj hx hub he
          subst this
          exact hn (by rw [← hpq]; simp)
        have := fin (p' ++ [b]) q hpq hq (fun y hy => by
          rcases List.mem_append.1 hy with hy | hy
          · have hao : Asc (p' ++ [b]) := (List.pairwise_append.1 (hpq ▸ ha)).1
            have := (List.pairwise_append.1 hao).2.2 y hy b (by simp)
            omega
          · obtain rfl := List.mem_singleton.1 hy
            omega)
        rwa [this] at h
theorem drossref02_Order.spec {l : List Int} (hl : l.length ≤ 35184372088832) (hu : AllU l) : drossref02_Order.C l (ordL l) := by
  obtain ⟨r, h1, h2⟩ := drossref02_Order.enter l (fun r => r = ordL l) (by
    have := fold_loop (l := l) (f := fun acc x => insS x acc) (Inv := fun k s => AllU s ∧ Asc s ∧ s.length ≤ k) (L := fun s i => drossref02_Order.L1 l s i (fun r => r = ordL l)) (K := fun s => s = ordL l) (s := [])
      (fun s hi hk => by apply drossref02_Order.L1_step; rw [if_neg (by omega)]; exact hk)
      (fun k a s ha hk hi => by
        obtain ⟨i1, i2, i3⟩ := hi
        have hua := hu a (List.mem_of_getElem? ha)
        have hlen : (insS a s).length ≤ s.length + 1 := by
          clear i1 i2 i3
          induction s with
          | nil => simp [insS]
          | cons b m ih2 =>
            simp only [insS]
            split
            · simp
            · split
              · simp
              · simp only [List.length_cons]; omega
        refine ⟨⟨fun y hy => ?_, insS_asc hua i1 i2, by omega⟩, fun hL => ?_⟩
        · rcases (insS_mem hua i1 y).1 hy with rfl | hy
          · exact hua
          · exact i1 y hy
        · apply drossref02_Order.L1_step
          rw [if_pos (by omega)]
          refine ⟨a, lget_of ha, _, drossref02_In.spec (by omega), ?_⟩
          have l3 : drossref02_Order.L3 l (insS a s) k (fun r => r = ordL l) := by
            apply drossref02_Order.L3_step
            rw [wrap_succ (by omega)]
            exact hL
          by_cases hin : a ∈ s
          · rw [if_pos (by simpa using hin)]
            have e : insS a s = s := asc_ext keyS (insS_asc hua i1 i2) i2 fun y => by
              rw [insS_mem hua i1]
              constructor
              · rintro (rfl | h); exact hin; exact h
              · exact .inr
            rwa [e] at l3
          · rw [if_neg (by simpa using hin)]
            refine ⟨by omega, ?_⟩
            have e1 : IntKind.wrap .i64 (((s ++ [a]).length : Int) - 1) = (s.length : Int) := wx _ _ (by simp) (by omega)
            rw [e1]
            exact drossref02_Order.place hua i1 i2 hin (by omega) l3 s.length s [] rfl (by simp) (by simp))
      ⟨fun _ h => (by cases h), List.Pairwise.nil, by simp⟩ rfl
    exact this)
  rw [← h1]; exact h2
end Go.Own

namespace Go.Own
namespace drosslaw02_AttrsetOf
theorem again {φ : Bool → Prop} (h : φ true) : L1 φ := L1_step φ ⟨true, drosslaw02_awake.spec, h⟩
theorem spec (l : List Int) (s : Int) (hs : U32 s) : C l s true := by
  obtain ⟨r, h1, h2⟩ := enter l s (fun r => r = true) (by
    refine ⟨true, drosslaw02_awake.spec, ?_⟩
    rw [if_pos rfl]
    split
    · exact again rfl
    · refine ⟨by omega, _, attrset_Of.spec (by omega), _, drossref02_Of.spec (by omega), ?_⟩
      rw [if_pos rfl, if_pos rfl]
      have m1 := attrset_Members.spec hs.lt
      have m2 := drossref02_Members.spec hs.lt
      rw [← hs.eq] at m1 m2
      have hlen : ((bitsOf (sN s)).map fun (i : Nat) => (i : Int)).length ≤ 32 := by rw [List.length_map]; exact bitsOf_len
      refine ⟨_, m1, _, m2, _, slices_Equal_sint_int.spec (by omega), ?_⟩
      rw [if_pos (by simp)]
      exact ⟨_, attrset_Size.spec hs, _, drossref02_Size.spec hs, by simp⟩)
  subst h1; exact h2
theorem law {xs : List D} (hx : TyAll env.P drosslaw02_AttrsetOf_K drosslaw02_AttrsetOf_T xs) : Ret env drosslaw02_AttrsetOf_F xs (.lit (.bool true)) [] :=
  drosslaw02_AttrsetOf_of (fun x0 x1 h0 h1 => spec x0 x1 (u32_of h1)) hx
end drosslaw02_AttrsetOf
end Go.Own
