/- What the functions that the law reaches answer. No conditions. -/
import Derived.Test.YtjiphhbagdangaaArmstrongMeetLaw4
import Derived.Test.YtjiphhbagdangaaArmstrongMeetLaw9
import Derived.Test.YtjiphhbagdangaaArmstrongMeetLaw10
import Derived.Test.YtjiphhbagdangaaArmstrongMeetLaw6
import Derived.Test.YtjiphhbagdangaaArmstrongMeetLaw1
set_option linter.all false

namespace Go.Own
def ltS (x y : Int) : Bool := decide (keyS x < keyS y)
theorem ltS_swo : Go.Sort.SWO ltS where
  irrefl := fun x => by unfold ltS; simp
  trans := fun x y z h1 h2 => by unfold ltS at *; simp only [decide_eq_true_eq] at *; omega
  ntrans := fun x y z h1 h2 => by unfold ltS at *; simp only [decide_eq_false_iff_not] at *; omega
theorem cmp_Compare_int.spec {x y : Int} : cmp_Compare_int.C x y (cmpI x y) := by
  obtain ⟨f1, g1, k1⟩ := cmp_isNaN_int.enter x (fun r => r = false) (by simp)
  obtain ⟨f2, g2, k2⟩ := cmp_isNaN_int.enter y (fun r => r = false) (by simp)
  subst g1 g2
  obtain ⟨r, h1, h2⟩ := cmp_Compare_int.enter x y (fun r => r = cmpI x y) (by
    refine ⟨_, k1, _, k2, ?_⟩
    rw [if_neg (by decide), if_neg (by decide)]
    unfold cmpI
    split
    · rfl
    · split <;> rfl)
  rw [← h1]; exact h2
theorem cmp_Compare_api_Set.spec {x y : Int} : cmp_Compare_api_Set.C x y (cmpI x y) := by
  obtain ⟨f1, g1, k1⟩ := cmp_isNaN_api_Set.enter x (fun r => r = false) (by simp)
  obtain ⟨f2, g2, k2⟩ := cmp_isNaN_api_Set.enter y (fun r => r = false) (by simp)
  subst g1 g2
  obtain ⟨r, h1, h2⟩ := cmp_Compare_api_Set.enter x y (fun r => r = cmpI x y) (by
    refine ⟨_, k1, _, k2, ?_⟩
    rw [if_neg (by decide), if_neg (by decide)]
    unfold cmpI
    split
    · rfl
    · split <;> rfl)
  rw [← h1]; exact h2
theorem cmp_Or_int.two {a b : Int} : cmp_Or_int.C [a, b] (if a = 0 then b else a) := by
  obtain ⟨r, h1, h2⟩ := cmp_Or_int.enter [a, b] (fun r => r = if a = 0 then b else a) (by
    apply cmp_Or_int.L1_step
    rw [if_pos (by simp)]
    refine ⟨a, rfl, ?_⟩
    by_cases ha : a = 0
    · rw [if_pos ha]
      apply cmp_Or_int.L1_step
      have e : IntKind.wrap .i64 ((0 : Int) + 1) = 1 := by decide
      rw [e, if_pos (by simp)]
      refine ⟨b, rfl, ?_⟩
      by_cases hb : b = 0
      · rw [if_pos hb]
        apply cmp_Or_int.L1_step
        have e : IntKind.wrap .i64 ((1 : Int) + 1) = 2 := by decide
        rw [e, if_neg (by simp), if_pos ha, hb]
      · rw [if_neg hb, if_pos ha]
    · rw [if_neg ha, if_neg ha])
  rw [← h1]; exact h2
theorem cmpS_ok : CmpOK U32 ltS attrset_compare.C := fun x y hx hy => by
  obtain ⟨r, h1, h2⟩ := attrset_compare.enter x y (fun r => r < 0 ↔ ltS x y = true) (by
    refine ⟨_, attrset_Size.spec hx, _, attrset_Size.spec hy, _, cmp_Compare_int.spec, _, cmp_Compare_api_Set.spec, _, cmp_Or_int.two, ?_⟩
    unfold ltS
    rw [decide_eq_true_eq, keyS_lt hx hy]
    have ex := hx.eq
    have ey := hy.eq
    unfold cmpI
    generalize szN (sN x) = s at *
    generalize szN (sN y) = t at *
    by_cases h1 : (s : Int) < t
    · rw [if_pos h1, if_neg (by decide)]; omega
    · rw [if_neg h1]
      by_cases h2 : (t : Int) < s
      · rw [if_pos h2, if_neg (by decide)]; omega
      · rw [if_neg h2, if_pos rfl]
        split
        · omega
        · split <;> omega)
  exact ⟨r, h2, h1⟩
end Go.Own

namespace Go.Own
theorem compactL_snoc : ∀ (l : List Int) (a b : Int), compactL (l ++ [a] ++ [b]) = if a = b then compactL (l ++ [a]) else compactL (l ++ [a]) ++ [b]
  | [], a, b => by
    simp only [List.nil_append, List.singleton_append, compactL]
    split <;> simp_all
  | [c], a, b => by
    simp only [List.singleton_append, List.cons_append, List.nil_append, compactL]
    split <;> split <;> simp_all
  | c :: d :: r, a, b => by
    have ih := compactL_snoc (d :: r) a b
    simp only [List.cons_append, compactL] at ih ⊢
    rw [ih]
    split <;> split <;> simp
theorem take_snoc {l : List Int} {m : Nat} {a : Int} (h : l[m]? = some a) : l.take (m + 1) = l.take m ++ [a] := by
  rw [List.take_add_one, h]; rfl
theorem compact_step {l : List Int} {m : Nat} {a b : Int} (ha : l[m]? = some a) (hb : l[m + 1]? = some b) : compactL (l.take (m + 2)) = if a = b then compactL (l.take (m + 1)) else compactL (l.take (m + 1)) ++ [b] := by
  have e1 : l.take (m + 2) = l.take m ++ [a] ++ [b] := by rw [take_snoc (m := m + 1) hb, take_snoc ha]
  rw [e1, take_snoc ha, compactL_snoc]
namespace slices_Compact_sapi_Set_api_Set
theorem inner {l : List Int} {o : Nat} {φ : List Int × Bool → Prop} (ho : 1 ≤ o) (hol : o < l.length) (hl : l.length < 4611686018427387904) (h : ∀ b, φ (compactL l, b)) (n : Nat) : ∀ (s : List Int) (k k2 : Nat), l.length - o - k2 ≤ n → 1 ≤ k2 → o + k2 ≤ l.length → s.length = l.length → k ≤ o + k2 - 1 → s.take k = compactL (l.take (o + k2)) → (∀ i, o + k2 - 1 ≤ i → s[i]? = l[i]?) → L2 s k o (l.length - o) k2 φ := by
  have hend : ∀ (s : List Int) (k k2 : Nat), o + k2 = l.length → s.length = l.length → k ≤ o + k2 - 1 → s.take k = compactL (l.take (o + k2)) → L2 s k o (l.length - o) k2 φ := fun s k k2 hk2 hs hk ht => by
    apply L2_step
    refine ⟨by omega, ?_⟩
    rw [if_neg (by rw [List.length_take, List.length_drop]; omega)]
    refine ⟨by omega, ⟨by omega, by omega⟩, by omega, by omega, by omega, by omega, ⟨by omega, by omega, by omega⟩, ?_⟩
    rw [Int.toNat_natCast]
    have e : s.take k = compactL l := by rw [ht, List.take_of_length_le (by omega)]
    rw [e]
    exact h _
  induction n with
  | zero => intro s k k2 hn h1 hk2 hs hk ht hd; exact hend s k k2 (by omega) hs hk ht
  | succ n ih =>
    intro s k k2 hn h1 hk2 hs hk ht hd
    by_cases hlt : o + k2 < l.length
    · apply L2_step
      refine ⟨by omega, ?_⟩
      rw [if_pos (by rw [List.length_take, List.length_drop]; omega)]
      obtain ⟨b, hb⟩ : ∃ b, l[o + k2]? = some b := ⟨_, List.getElem?_eq_getElem hlt⟩
      obtain ⟨a, ha⟩ : ∃ a, l[o + k2 - 1]? = some a := ⟨_, List.getElem?_eq_getElem (by omega)⟩
      have e1 : (o : Int) + (k2 : Int) = ((o + k2 : Nat) : Int) := by omega
      have e2 : IntKind.wrap .i64 ((k2 : Int) - 1) = ((k2 - 1 : Nat) : Int) := wx _ _ (by omega) (by omega)
      have e3 : (o : Int) + ((k2 - 1 : Nat) : Int) = ((o + k2 - 1 : Nat) : Int) := by omega
      have e4 : IntKind.wrap .i64 ((k2 : Int) + 1) = ((k2 + 1 : Nat) : Int) := wx _ _ (by omega) (by omega)
      have e5 : IntKind.wrap .i64 ((k : Int) + 1) = ((k + 1 : Nat) : Int) := wx _ _ (by omega) (by omega)
      rw [e1, e2, e3]
      have hstep := compact_step (l := l) (m := o + k2 - 1) ha (by rw [show o + k2 - 1 + 1 = o + k2 by omega]; exact hb)
      rw [show o + k2 - 1 + 2 = o + (k2 + 1) by omega, show o + k2 - 1 + 1 = o + k2 by omega] at hstep
      refine ⟨b, by rw [lget_nat, hd _ (by omega)]; exact hb, ⟨by omega, by omega⟩, by omega, a, by rw [lget_nat, hd _ (by omega)]; exact ha, ⟨by omega, by omega⟩, by omega, ?_⟩
      by_cases hab : b = a
      · rw [if_pos hab]
        apply L3_step
        rw [e4]
        rw [if_pos hab.symm] at hstep
        exact ih s k (k2 + 1) (by omega) (by omega) (by omega) hs (by omega) (by rw [ht, hstep]) (fun i hi => hd i (by omega))
      · rw [if_neg hab]
        rw [if_neg (fun h => hab h.symm)] at hstep
        obtain ⟨c, hc⟩ : ∃ c, s[k]? = some c := ⟨_, List.getElem?_eq_getElem (by omega)⟩
        refine ⟨⟨by omega, by omega⟩, by omega, c, by rw [lget_nat]; exact hc, ?_⟩
        apply L3_step
        rw [e4, e5]
        have hls : lset s (k : Int) b = s.set k b := by unfold lset; rw [Int.toNat_natCast]
        rw [hls]
        refine ih (s.set k b) (k + 1) (k2 + 1) (by omega) (by omega) (by omega) (by rw [List.length_set]; exact hs) (by omega) ?_ (fun i hi => ?_)
        · rw [hstep, ← ht, take_snoc (a := b) (by rw [List.getElem?_set_self (by omega)])]
          congr 1
          rw [List.take_set_of_le (Nat.le_refl k)]
        · rw [List.getElem?_set_ne (by omega)]
          exact hd i (by omega)
    · exact hend s k k2 (by omega) hs hk ht
theorem outer {l : List Int} {φ : List Int × Bool → Prop} (hl : l.length < 4611686018427387904) (h : ∀ b, φ (compactL l, b)) (n : Nat) : ∀ i, l.length - i ≤ n → 1 ≤ i → i ≤ l.length → compactL (l.take i) = l.take i → L1 l i φ := by
  induction n with
  | zero =>
    intro i hn h1 hi hc
    apply L1_step
    rw [if_neg (by omega)]
    have e : i = l.length := by omega
    rw [e, List.take_length] at hc
    have := h true
    rwa [hc] at this
  | succ n ih =>
    intro i hn h1 hi hc
    by_cases hlt : i < l.length
    · apply L1_step
      rw [if_pos (by omega)]
      obtain ⟨b, hb⟩ : ∃ b, l[i]? = some b := ⟨_, List.getElem?_eq_getElem hlt⟩
      obtain ⟨a, ha⟩ : ∃ a, l[i - 1]? = some a := ⟨_, List.getElem?_eq_getElem (by omega)⟩
      have e2 : IntKind.wrap .i64 ((i : Int) - 1) = ((i - 1 : Nat) : Int) := wx _ _ (by omega) (by omega)
      have e4 : IntKind.wrap .i64 ((i : Int) + 1) = ((i + 1 : Nat) : Int) := wx _ _ (by omega) (by omega)
      rw [e2, e4]
      have hstep := compact_step (l := l) (m := i - 1) ha (by rw [show i - 1 + 1 = i by omega]; exact hb)
      rw [show i - 1 + 2 = i + 1 by omega, show i - 1 + 1 = i by omega] at hstep
      refine ⟨b, by rw [lget_nat]; exact hb, a, by rw [lget_nat]; exact ha, ?_⟩
      by_cases hab : b = a
      · rw [if_pos hab]
        rw [if_pos hab.symm] at hstep
        refine ⟨by omega, ⟨by omega, by omega⟩, ?_⟩
        rw [Int.toNat_natCast]
        exact inner (o := i) h1 hlt hl h (l.length - i - 1) l i 1 (Nat.le_refl _) (Nat.le_refl _) (by omega) rfl (by omega) (by rw [hstep, hc]) (fun _ _ => rfl)
      · rw [if_neg hab]
        rw [if_neg (fun h => hab h.symm)] at hstep
        exact ih (i + 1) (by omega) (by omega) (by omega) (by rw [hstep, hc, take_snoc hb])
    · apply L1_step
      rw [if_neg (by omega)]
      have e : i = l.length := by omega
      rw [e, List.take_length] at hc
      have := h true
      rwa [hc] at this
theorem spec {l : List Int} (hl : l.length < 4611686018427387904) : ∃ b, C l (compactL l, b) := by
  obtain ⟨r, ⟨b, rfl⟩, h2⟩ := enter l (fun r => ∃ b, r = (compactL l, b)) (by
    split
    · rename_i h
      refine ⟨true, ?_⟩
      match l, h with
      | [], _ => rfl
      | [a], _ => rfl
      | _ :: _ :: _, h => simp at h; omega
    · rename_i h
      have : 1 ≤ l.length := by omega
      exact outer hl (fun b => ⟨b, rfl⟩) (l.length - 1) 1 (by omega) (by omega) this (by
        obtain ⟨a, r, rfl⟩ : ∃ a r, l = a :: r := by cases l with
          | nil => simp at this
          | cons a r => exact ⟨a, r, rfl⟩
        rfl))
  exact ⟨b, h2⟩
end slices_Compact_sapi_Set_api_Set
end Go.Own

namespace Go.Own
theorem attrset_Order.spec {l : List Int} (hl : l.length ≤ 35184372088832) (hu : AllU l) : attrset_Order.C l (ordL l) := by
  obtain ⟨r, h1, h2⟩ := attrset_Order.enter l (fun r => r = ordL l) (by
    obtain ⟨s, c, hp, ha⟩ := slices_SortFunc_sapi_Set_api_Set_attrset_compare.spec cmpS_ok ltS_swo (l := l) (by omega) hu
    have hlen := hp.length_eq
    obtain ⟨b, c2⟩ := slices_Compact_sapi_Set_api_Set.spec (l := s) (by omega)
    refine ⟨by omega, s, c, _, c2, ?_⟩
    have hus : AllU s := fun x hx => hu x (hp.mem_iff.1 hx)
    refine ordL_eq hu (compactL_asc hus (ha.imp fun h => ?_)) fun y => by rw [compactL_mem, hp.mem_iff]
    unfold ltS at h
    simp only [decide_eq_false_iff_not] at h
    omega)
  rw [← h1]; exact h2
theorem drossref02_In.spec {l : List Int} {x : Int} (hl : l.length < 9223372036854775807) : drossref02_In.C l x (decide (x ∈ l)) := by
  obtain ⟨r, h1, h2⟩ := drossref02_In.enter l x (fun r => r = decide (x ∈ l)) (by
    have e : decide (x ∈ l) = l.any fun a => a == x := by
      rw [Bool.eq_iff_iff]
      simp
    rw [e]
    refine any_loop (l := l) (p := fun a => a == x) (L := fun i => drossref02_In.L1 l x i _) (φ := fun r => r = l.any fun a => a == x) ?_ ?_ rfl
    · intro h; apply drossref02_In.L1_step; rw [if_neg (by omega)]; exact h
    · intro k a ha hk h
      apply drossref02_In.L1_step
      rw [if_pos (by omega)]
      refine ⟨a, lget_of ha, ?_⟩
      rw [wrap_succ (by omega)]
      by_cases hax : a = x
      · rw [if_pos hax]; rw [if_pos (by simpa using hax)] at h; exact h
      · rw [if_neg hax]; rw [if_neg (by simpa using hax)] at h; exact h)
  rw [← h1]; exact h2
theorem drossref02_Same.spec {l m : List Int} (hl : l.length < 9223372036854775807) : drossref02_Same.C l m (decide (l = m)) := by
  obtain ⟨r, h1, h2⟩ := drossref02_Same.enter l m (fun r => r = decide (l = m)) (by
    by_cases hlm : l.length = m.length
    · rw [if_pos (by omega)]
      have : ∀ (n k : Nat), l.length - k ≤ n → k ≤ l.length → l.take k = m.take k → drossref02_Same.L1 l m k (fun r => r = decide (l = m)) := by
        intro n
        induction n with
        | zero =>
          intro k hn hk ht
          apply drossref02_Same.L1_step
          rw [if_neg (by omega)]
          have e : k = l.length := by omega
          rw [e, List.take_length, hlm, List.take_length] at ht
          simp [ht]
        | succ n ih =>
          intro k hn hk ht
          by_cases hlt : k < l.length
          · apply drossref02_Same.L1_step
            rw [if_pos (by omega)]
            have ha : l[k]? = some l[k] := List.getElem?_eq_getElem hlt
            have hb : m[k]? = some m[k] := List.getElem?_eq_getElem (by omega)
            refine ⟨_, lget_of ha, _, lget_of hb, ?_⟩
            rw [wrap_succ (by omega)]
            by_cases hab : l[k] = m[k]
            · rw [if_pos hab]
              exact ih (k + 1) (by omega) (by omega) (by rw [take_snoc ha, take_snoc hb, ht, hab])
            · rw [if_neg hab]
              have : ¬ l = m := fun h => by subst h; exact hab rfl
              simp [this]
          · apply drossref02_Same.L1_step
            rw [if_neg (by omega)]
            have e : k = l.length := by omega
            rw [e, List.take_length, hlm, List.take_length] at ht
            simp [ht]
      exact this l.length 0 (by omega) (by omega) (by simp)
    · rw [if_neg (by omega)]
      have : ¬ l = m := fun h => hlm (by rw [h])
      simp [this])
  rw [← h1]; exact h2
theorem drossref02_Size.spec {x : Int} (hx : U32 x) : drossref02_Size.C x (szN (sN x) : Int) := by
  have := drossref02_Members.spec hx.lt
  rw [← hx.eq] at this
  obtain ⟨r, h1, h2⟩ := drossref02_Size.enter x (fun r => r = (szN (sN x) : Int)) ⟨_, this, by rw [List.length_map]; rfl⟩
  rw [← h1]; exact h2
theorem drossref02_Before.spec {x y : Int} (hx : U32 x) (hy : U32 y) : drossref02_Before.C x y (ltS x y) := by
  obtain ⟨r, h1, h2⟩ := drossref02_Before.enter x y (fun r => r = ltS x y) (by
    refine ⟨_, drossref02_Size.spec hx, _, drossref02_Size.spec hy, ?_⟩
    have ex := hx.eq
    have ey := hy.eq
    have hk := keyS_lt hx hy
    unfold ltS
    split
    · rename_i h
      rw [decide_eq_decide, hk]
      omega
    · rename_i h
      refine ⟨_, drossref02_Size.spec hx, _, drossref02_Size.spec hy, ?_⟩
      rw [decide_eq_decide, hk]
      omega)
  rw [← h1]; exact h2
theorem set_swap {p q : List Int} {b x : Int} : lset (lset (p ++ [b] ++ x :: q) ((p.length + 1 : Nat) : Int) b) ((p.length : Nat) : Int) x = p ++ x :: b :: q := by
  unfold lset
  rw [Int.toNat_natCast, Int.toNat_natCast, List.append_assoc, List.singleton_append]
  induction p with
  | nil => rfl
  | cons a p ih =>
    simp only [List.cons_append, List.length_cons, List.set_cons_succ]
    exact congrArg _ ih
theorem drossref02_Order.place {l : List Int} {x : Int} {i : Nat} {φ : List Int → Prop} (hx : U32 x) {out : List Int} (hu : AllU out) (ha : Asc out) (hn : x ∉ out) (hl : out.length < 9223372036854775800) (h : drossref02_Order.L3 l (insS x out) i φ) : ∀ (n : Nat) (p q : List Int), p.length = n → p ++ q = out → (∀ y ∈ q, keyS x < keyS y) → drossref02_Order.L2 l (p ++ x :: q) i n φ := by
  have fin : ∀ p q : List Int, p ++ q = out → (∀ y ∈ q, keyS x < keyS y) → (∀ y ∈ p, keyS y < keyS x) → insS x out = p ++ x :: q := fun p q hpq hq hp => by
    refine asc_ext keyS (insS_asc hx hu ha) ?_ fun y => ?_
    · subst hpq
      have ha : List.Pairwise (fun a b => keyS a < keyS b) (p ++ q) := ha
      rw [List.pairwise_append] at ha ⊢
      refine ⟨ha.1, List.pairwise_cons.2 ⟨hq, ha.2.1⟩, fun a h1 b h2 => ?_⟩
      rcases List.mem_cons.1 h2 with rfl | h2
      · exact hp a h1
      · exact ha.2.2 a h1 b h2
    · rw [insS_mem hx hu, ← hpq, List.mem_append, List.mem_append, List.mem_cons]
      constructor
      · rintro (h | h | h) <;> simp [h]
      · rintro (h | h | h) <;> simp [h]
  intro n
  induction n with
  | zero =>
    intro p q hp hpq hq
    apply drossref02_Order.L2_step
    rw [if_neg (by omega)]
    have := fin p q hpq hq (by have := List.eq_nil_of_length_eq_zero hp; subst this; simp)
    rwa [this] at h
  | succ n ih =>
    intro p q hp hpq hq
    apply drossref02_Order.L2_step
    rw [if_pos (by omega)]
    obtain ⟨p', b, rfl⟩ : ∃ p' b, p = p' ++ [b] := by
      have : p ≠ [] := fun h => by subst h; simp at hp
      exact ⟨p.dropLast, p.getLast this, (List.dropLast_concat_getLast this).symm⟩
    have hp' : p'.length = n := by simpa using hp
    have hlen : p'.length + 1 + q.length = out.length := by rw [← hpq]; simp; omega
    have hub : U32 b := hu b (by rw [← hpq]; simp)
    have e1 : IntKind.wrap .i64 (((n + 1 : Nat) : Int) - 1) = (n : Int) := wx _ _ (by omega) (by omega)
    rw [e1]
    refine ⟨x, ?_, b, ?_, _, drossref02_Before.spec hx hub, ?_⟩
    · rw [lget_nat, List.getElem?_append_right (by simp; omega)]
      simp [hp']
    · rw [lget_nat, List.getElem?_append_left (by simp; omega), List.getElem?_append_right (by omega)]
      simp [hp']
    · by_cases hlt : ltS x b = true
      · rw [if_pos hlt]
        have hltk : keyS x < keyS b := by simpa [ltS] using hlt
        obtain ⟨z, hz⟩ : ∃ z, lget (lset (p' ++ [b] ++ x :: q) ((n + 1 : Nat) : Int) b) (n : Int) = some z := lget_lt (by omega) (by rw [lset_length]; simp; omega)
        refine ⟨z, hz, ?_⟩
        have hsw := set_swap (p := p') (q := q) (b := b) (x := x)
        rw [hp'] at hsw
        rw [hsw]
        refine ih p' (b :: q) hp' (by rw [← hpq]; simp) fun y hy => ?_
        rcases List.mem_cons.1 hy with rfl | hy
        · exact hltk
        · exact hq y hy
      · rw [if_neg hlt]
        have hnlt : ¬ keyS x < keyS b := by simpa [ltS] using hlt
        have hne : keyS x ≠ keyS b := fun he => by
          have := keyS_inj hx hub he
          subst this
          exact hn (by rw [← hpq]; simp)
        have := fin (p' ++ [b]) q hpq hq (fun y hy => by
          rcases List.mem_append.1 hy with hy | hy
          · have hao : Asc (p' ++ [b]) := (List.pairwise_append.1 (hpq ▸ ha)).1
            have := (List.pairwise_append.1 hao).2.2 y hy b (by simp)
            omega
          · obtain rfl := List.mem_singleton.1 hy
            omega)
        rwa [this] at h
theorem drossref02_Order.spec {l : List Int} (hl : l.length ≤ 35184372088832) (hu : AllU l) : drossref02_Order.C l (ordL l) := by
  obtain ⟨r, h1, h2⟩ := drossref02_Order.enter l (fun r => r = ordL l) (by
    have := fold_loop (l := l) (f := fun acc x => insS x acc) (Inv := fun k s => AllU s ∧ Asc s ∧ s.length ≤ k) (L := fun s i => drossref02_Order.L1 l s i (fun r => r = ordL l)) (K := fun s => s = ordL l) (s := [])
      (fun s hi hk => by apply drossref02_Order.L1_step; rw [if_neg (by omega)]; exact hk)
      (fun k a s ha hk hi => by
        obtain ⟨i1, i2, i3⟩ := hi
        have hua := hu a (List.mem_of_getElem? ha)
        have hlen : (insS a s).length ≤ s.length + 1 := by
          clear i1 i2 i3
          induction s with
          | nil => simp [insS]
          | cons b m ih2 =>
            simp only [insS]
            split
            · simp
            · split
              · simp
              · simp only [List.length_cons]; omega
        refine ⟨⟨fun y hy => ?_, insS_asc hua i1 i2, by omega⟩, fun hL => ?_⟩
        · rcases (insS_mem hua i1 y).1 hy with rfl | hy
          · exact hua
          · exact i1 y hy
        · apply drossref02_Order.L1_step
          rw [if_pos (by omega)]
          refine ⟨a, lget_of ha, _, drossref02_In.spec (by omega), ?_⟩
          have l3 : drossref02_Order.L3 l (insS a s) k (fun r => r = ordL l) := by
            apply drossref02_Order.L3_step
            rw [wrap_succ (by omega)]
            exact hL
          by_cases hin : a ∈ s
          · rw [if_pos (by simpa using hin)]
            have e : insS a s = s := asc_ext keyS (insS_asc hua i1 i2) i2 fun y => by
              rw [insS_mem hua i1]
              constructor
              · rintro (rfl | h); exact hin; exact h
              · exact .inr
            rwa [e] at l3
          · rw [if_neg (by simpa using hin)]
            refine ⟨by omega, ?_⟩
            have e1 : IntKind.wrap .i64 (((s ++ [a]).length : Int) - 1) = (s.length : Int) := wx _ _ (by simp) (by omega)
            rw [e1]
            exact drossref02_Order.place hua i1 i2 hin (by omega) l3 s.length s [] rfl (by simp) (by simp))
      ⟨fun _ h => (by cases h), List.Pairwise.nil, by simp⟩ rfl
    exact this)
  rw [← h1]; exact h2
end Go.Own

namespace Go.Own
def subL (s : Nat) : List Int := (bsL 32 s).map fun (n : Nat) => (n : Int)
theorem subL_mem {s : Nat} (hs : s < 2 ^ 32) {y : Int} : y ∈ subL s ↔ ∃ n : Nat, y = n ∧ n &&& s = n := by
  unfold subL
  rw [List.mem_map]
  constructor
  · rintro ⟨n, hn, rfl⟩; exact ⟨n, rfl, (bsL_mem hs n).1 hn⟩
  · rintro ⟨n, rfl, hn⟩; exact ⟨n, (bsL_mem hs n).2 hn, rfl⟩
theorem subL_all {s : Nat} (hs : s < 2 ^ 32) : AllU (subL s) := fun y hy => by
  obtain ⟨n, rfl, hn⟩ := (subL_mem hs).1 hy
  have := sub_le hn
  exact U32.of (by omega)
def subsF (s : Nat) : List Int := if 12 < szN s then [] else ordL (subL s)
theorem keyS_lt_big {x : Int} (hx : U32 x) : keyS x < 33 * 4294967296 := by
  have h1 := hx.lt
  have h2 := szN_le (n := sN x)
  unfold keyS; omega
theorem asc_small {l : List Int} (hu : AllU l) (ha : Asc l) : l.length ≤ 33 * 4294967296 := asc_len keyS ha fun x hx => keyS_lt_big (hu x hx)
theorem subsF_len {s : Nat} (hs : s < 2 ^ 32) : (subsF s).length ≤ 33 * 4294967296 := by
  unfold subsF
  split
  · simp
  · exact asc_small (ordL_all (subL_all hs)) (ordL_asc (subL_all hs))
theorem ordL_nodup_len {l : List Int} (hu : AllU l) (hn : l.Nodup) : (ordL l).length = l.length := by
  have h1 : (ordL l).Nodup := (ordL_asc hu).imp fun {a b} h => fun e => by subst e; omega
  exact ((List.perm_ext_iff_of_nodup h1 hn).2 fun y => ordL_mem hu y).length_eq
theorem subs_count {s : Nat} (hs : s < 2 ^ 32) : (ordL (subL s)).length = 2 ^ szN s := by
  rw [ordL_nodup_len (subL_all hs)]
  · unfold subL
    rw [List.length_map, bsL_len]; rfl
  · unfold subL
    have h1 : (bsL 32 s).Nodup := bsL_asc.imp fun {a b} h => by omega
    exact List.Pairwise.map _ (fun a b h => by omega) h1
theorem attrset_Subsets.loop {s : Nat} (hs : s < 2 ^ 32) {φ : List Int → Prop} (h : φ (ordL (subL s))) (n : Nat) : ∀ (x : Nat) (out : List Int), x ≤ n → x &&& s = x → out.length + x ≤ s + 1 → (∀ y, y ∈ out ↔ ∃ m : Nat, y = m ∧ m &&& s = m ∧ x ≤ m) → attrset_Subsets.L1 s out x φ := by
  induction n with
  | zero =>
    intro x out hx hsub hl hm
    have : x = 0 := by omega
    subst this
    apply attrset_Subsets.L1_step
    rw [if_pos (by omega)]
    have hmem : ∀ y, y ∈ out ↔ y ∈ subL s := fun y => by
      rw [hm, subL_mem hs]
      constructor
      · rintro ⟨m, a, b, _⟩; exact ⟨m, a, b⟩
      · rintro ⟨m, a, b⟩; exact ⟨m, a, b, Nat.zero_le _⟩
    have hu : AllU out := fun y hy => subL_all hs y ((hmem y).1 hy)
    refine ⟨_, attrset_Order.spec (by omega) hu, ?_⟩
    rw [ordL_congr (subL_all hs) hmem]; exact h
  | succ n ih =>
    intro x out hx hsub hl hm
    by_cases h0 : x = 0
    · exact ih x out (by omega) hsub hl hm
    · apply attrset_Subsets.L1_step
      rw [if_neg (by omega)]
      refine ⟨by omega, ?_⟩
      have hxs := sub_le hsub
      have e1 : IntKind.wrap .u32 ((x : Int) - 1) = ((x - 1 : Nat) : Int) := by
        rw [show (x : Int) - 1 = ((x - 1 : Nat) : Int) by omega]
        exact wrap_top (k := .u32) (by simp only [top]; omega)
      rw [e1, bAnd_nat (k := .u32) (by simp only [top]; omega) (by simpa [top] using hs)]
      have hp : (x - 1) &&& s ≤ x - 1 := Nat.and_le_left
      refine ih _ _ (by omega) (by rw [Nat.and_assoc, Nat.and_self]) (by rw [List.length_append, List.length_singleton]; omega) fun y => ?_
      rw [List.mem_append, hm, List.mem_singleton]
      constructor
      · rintro (⟨m, a, b, c⟩ | rfl)
        · exact ⟨m, a, b, by omega⟩
        · exact ⟨_, rfl, by rw [Nat.and_assoc, Nat.and_self], Nat.le_refl _⟩
      · rintro ⟨m, rfl, b, c⟩
        rcases Nat.lt_or_ge m x with h1 | h1
        · right
          have := pred_sub x s m hsub (by omega) b h1
          have : m = (x - 1) &&& s := by omega
          rw [this]
        · exact .inl ⟨m, rfl, b, h1⟩
theorem attrset_Subsets.spec {s : Nat} (hs : s < 2 ^ 32) : attrset_Subsets.C s (subsF s) := by
  obtain ⟨r, h1, h2⟩ := attrset_Subsets.enter s (fun r => r = subsF s) (by
    have hz := attrset_Size.spec (x := (s : Int)) (U32.of hs)
    rw [sN_nat] at hz
    refine ⟨_, hz, ?_⟩
    unfold subsF
    by_cases h12 : 12 < szN s
    · rw [if_pos (by omega), if_pos h12]
    · rw [if_neg (by omega), if_neg h12]
      refine attrset_Subsets.loop (φ := fun r => r = ordL (subL s)) hs (Eq.refl _) s s [(s : Int)] (Nat.le_refl s) (Nat.and_self s) (by rw [List.length_singleton]; omega) fun y => ?_
      rw [List.mem_singleton]
      constructor
      · rintro rfl; exact ⟨s, rfl, Nat.and_self s, Nat.le_refl _⟩
      · rintro ⟨m, rfl, b, c⟩
        have := sub_le b
        have : m = s := by omega
        rw [this])
  rw [← h1]; exact h2
end Go.Own

namespace Go.Own
theorem szN_full16 : ∀ n : Nat, n ≤ 16 → szN (2 ^ n - 1) = n := by
  intro n hn
  have : ∀ i : Fin 17, szN (2 ^ i.val - 1) = i.val := by decide +kernel
  exact this ⟨n, by omega⟩
theorem sub_pow {m n : Nat} : m &&& (2 ^ n - 1) = m ↔ m < 2 ^ n := by
  rw [Nat.and_two_pow_sub_one_eq_mod]
  constructor
  · intro h
    rw [← h]; exact Nat.mod_lt _ (Nat.pow_pos (by omega))
  · exact Nat.mod_eq_of_lt
def rngL (n : Nat) : List Int := (List.range (2 ^ n)).map fun (m : Nat) => (m : Int)
theorem rngL_mem {n : Nat} {y : Int} : y ∈ rngL n ↔ ∃ m : Nat, y = m ∧ m < 2 ^ n := by
  unfold rngL
  rw [List.mem_map]
  constructor
  · rintro ⟨m, hm, rfl⟩; exact ⟨m, rfl, List.mem_range.1 hm⟩
  · rintro ⟨m, rfl, hm⟩; exact ⟨m, List.mem_range.2 hm, rfl⟩
theorem pow16 {n : Nat} (hn : n ≤ 16) : 2 ^ n ≤ 65536 ∧ 0 < 2 ^ n := ⟨Nat.pow_le_pow_right (n := 2) (by omega) hn, Nat.pow_pos (by omega)⟩
theorem rngL_all {n : Nat} (hn : n ≤ 16) : AllU (rngL n) := fun y hy => by
  obtain ⟨m, rfl, hm⟩ := rngL_mem.1 hy
  have := pow16 hn
  exact U32.of (by omega)
theorem subs_full {n : Nat} (hn : n ≤ 12) : subsF (2 ^ n - 1) = ordL (subL (2 ^ n - 1)) := by
  unfold subsF
  rw [if_neg (by rw [szN_full16 n (by omega)]; omega)]
theorem subs_mem {n : Nat} (hn : n ≤ 12) {y : Int} : y ∈ subsF (2 ^ n - 1) ↔ ∃ m : Nat, y = m ∧ m < 2 ^ n := by
  have hp := pow16 (n := n) (by omega)
  have hs : 2 ^ n - 1 < 2 ^ 32 := by omega
  rw [subs_full hn, ordL_mem (subL_all hs), subL_mem hs]
  constructor
  · rintro ⟨m, rfl, h⟩; exact ⟨m, rfl, sub_pow.1 h⟩
  · rintro ⟨m, rfl, h⟩; exact ⟨m, rfl, sub_pow.2 h⟩
theorem subs_all {n : Nat} (hn : n ≤ 12) : AllU (subsF (2 ^ n - 1)) := fun y hy => by
  obtain ⟨m, rfl, hm⟩ := (subs_mem hn).1 hy
  have := pow16 (n := n) (by omega)
  exact U32.of (by omega)
theorem subs_asc {n : Nat} (hn : n ≤ 12) : Asc (subsF (2 ^ n - 1)) := by
  have hp := pow16 (n := n) (by omega)
  rw [subs_full hn]
  exact ordL_asc (subL_all (by omega))
theorem subs_len {n : Nat} (hn : n ≤ 12) : (subsF (2 ^ n - 1)).length = 2 ^ n := by
  have hp := pow16 (n := n) (by omega)
  rw [subs_full hn, subs_count (by omega), szN_full16 n (by omega)]
theorem pick_order {n : Nat} (hn : n ≤ 12) (p : Int → Bool) : (subsF (2 ^ n - 1)).filter p = ordL ((rngL n).filter p) := by
  have hu : AllU ((rngL n).filter p) := fun y hy => rngL_all (by omega) y (List.mem_filter.1 hy).1
  refine ordL_eq hu ((subs_asc hn).filter _) fun y => ?_
  rw [List.mem_filter, List.mem_filter, subs_mem hn, rngL_mem]
end Go.Own

namespace Go.Own
theorem passN_nil (s : Nat) : passN [] s = s := rfl
theorem passN_cons (d : api_FD) (l : List api_FD) (s : Nat) : passN (d :: l) s = passN l (if sN d.Lhs &&& s = sN d.Lhs then s ||| sN d.Rhs else s) := rfl
theorem andNot_zero {a : Int} {s : Nat} (ha : U32 a) (hs : s < 2 ^ 32) : bAndNot .u32 a s = 0 ↔ sN a &&& s = sN a := by
  have e : bAndNot .u32 a s = ((ndiff (sN a) s : Nat) : Int) := by
    conv => lhs; rw [ha.eq]
    exact bAndNot_nat ha.top (by simpa [top] using hs)
  rw [e, sub_iff, ← ndiff_zero]; omega
theorem or_nat {a : Int} {s : Nat} (ha : U32 a) (hs : s < 2 ^ 32) : bOr .u32 s a = ((s ||| sN a : Nat) : Int) := by
  conv => lhs; rw [ha.eq]
  exact bOr_nat (by simpa [top] using hs) ha.top
theorem sub_spec {a : Int} {s : Nat} (ha : U32 a) (hs : s < 2 ^ 32) : drossref02_Sub.C a s (decide (sN a &&& s = sN a)) := by
  have := drossref02_Sub.spec (a := sN a) (b := s) ha.lt hs
  rw [← ha.eq] at this; exact this
namespace closure_Close
theorem pass {l : List api_FD} (hl : FdOK l) (hn : l.length < 1000000000) {b : Int} {φ : Int → Prop} : ∀ (r : List api_FD) (k s : Nat), l.drop k = r → s < 2 ^ 32 → (if ((passN r s : Nat) : Int) = b then φ ((passN r s : Nat) : Int) else L1 l ((passN r s : Nat) : Int) φ) → L2 l s b k φ := by
  intro r
  induction r with
  | nil =>
    intro k s hd hs h
    have := drop_ge hd
    apply L2_step
    rw [if_neg (by omega)]
    exact h
  | cons d r ih =>
    intro k s hd hs h
    have hlt := drop_lt hd
    have hd' := hl d (List.mem_of_getElem? (drop_get hd))
    apply L2_step
    rw [if_pos (by omega)]
    refine ⟨d, lget_drop hd, ?_⟩
    rw [passN_cons] at h
    by_cases hz : sN d.Lhs &&& s = sN d.Lhs
    · rw [if_pos ((andNot_zero hd'.1 hs).2 hz), or_nat hd'.2 hs]
      rw [if_pos hz] at h
      apply L3_step
      rw [wrap_succ (by omega)]
      exact ih (k + 1) _ (drop_next hd) (Nat.or_lt_two_pow hs hd'.2.lt) h
    · rw [if_neg (fun hh => hz ((andNot_zero hd'.1 hs).1 hh))]
      rw [if_neg hz] at h
      apply L3_step
      rw [wrap_succ (by omega)]
      exact ih (k + 1) s (drop_next hd) hs h
theorem loop {l : List api_FD} (hl : FdOK l) (hn : l.length < 1000000000) {φ : Int → Prop} : ∀ (k s : Nat), s < 2 ^ 32 → 33 ≤ k + szN s → φ ((passK l k s : Nat) : Int) → L1 l s φ
  | 0, s, hs, hk, h => by have := bitsOf_len (n := s); unfold szN at hk; omega
  | k + 1, s, hs, hk, h => by
    have hr : ∀ d ∈ l, sN d.Rhs < 2 ^ 32 := fun d hd => (hl d hd).2.lt
    apply L1_step
    refine pass hl hn l 0 s rfl hs ?_
    rw [passK] at h
    by_cases hz : passN l s = s
    · rw [if_pos (by rw [hz]), hz]
      rw [hz, passK_fix hz] at h
      exact h
    · rw [if_neg (by omega)]
      have := szN_lt (passN_up (l := l)) (Ne.symm hz) (passN_lt hs hr)
      exact loop hl hn k _ (passN_lt hs hr) (by omega) h
theorem spec {l : List api_FD} (hl : FdOK l) (hn : l.length < 1000000000) {s : Nat} (hs : s < 2 ^ 32) : C l s ((cloN l s : Nat) : Int) := by
  obtain ⟨r, h1, h2⟩ := enter l s (fun r => r = ((cloN l s : Nat) : Int)) (loop hl hn 33 s hs (by omega) rfl)
  rw [← h1]; exact h2
end closure_Close
namespace drossref09_Close
theorem pass {l : List api_FD} (hl : FdOK l) (hn : l.length < 1000000000) {b : Int} {φ : Int → Prop} : ∀ (r : List api_FD) (k s : Nat), l.drop k = r → s < 2 ^ 32 → (if ((passN r s : Nat) : Int) = b then φ ((passN r s : Nat) : Int) else L1 l ((passN r s : Nat) : Int) φ) → L2 l s b k φ := by
  intro r
  induction r with
  | nil =>
    intro k s hd hs h
    have := drop_ge hd
    apply L2_step
    rw [if_neg (by omega)]
    exact h
  | cons d r ih =>
    intro k s hd hs h
    have hlt := drop_lt hd
    have hd' := hl d (List.mem_of_getElem? (drop_get hd))
    apply L2_step
    rw [if_pos (by omega)]
    refine ⟨d, lget_drop hd, _, sub_spec hd'.1 hs, ?_⟩
    rw [passN_cons] at h
    by_cases hz : sN d.Lhs &&& s = sN d.Lhs
    · rw [if_pos (decide_eq_true hz), or_nat hd'.2 hs]
      rw [if_pos hz] at h
      apply L3_step
      rw [wrap_succ (by omega)]
      exact ih (k + 1) _ (drop_next hd) (Nat.or_lt_two_pow hs hd'.2.lt) h
    · rw [if_neg (by rw [decide_eq_false hz]; decide)]
      rw [if_neg hz] at h
      apply L3_step
      rw [wrap_succ (by omega)]
      exact ih (k + 1) s (drop_next hd) hs h
theorem loop {l : List api_FD} (hl : FdOK l) (hn : l.length < 1000000000) {φ : Int → Prop} : ∀ (k s : Nat), s < 2 ^ 32 → 33 ≤ k + szN s → φ ((passK l k s : Nat) : Int) → L1 l s φ
  | 0, s, hs, hk, h => by have := bitsOf_len (n := s); unfold szN at hk; omega
  | k + 1, s, hs, hk, h => by
    have hr : ∀ d ∈ l, sN d.Rhs < 2 ^ 32 := fun d hd => (hl d hd).2.lt
    apply L1_step
    refine pass hl hn l 0 s rfl hs ?_
    rw [passK] at h
    by_cases hz : passN l s = s
    · rw [if_pos (by rw [hz]), hz]
      rw [hz, passK_fix hz] at h
      exact h
    · rw [if_neg (by omega)]
      have := szN_lt (passN_up (l := l)) (Ne.symm hz) (passN_lt hs hr)
      exact loop hl hn k _ (passN_lt hs hr) (by omega) h
theorem spec {l : List api_FD} (hl : FdOK l) (hn : l.length < 1000000000) {s : Nat} (hs : s < 2 ^ 32) : C l s ((cloN l s : Nat) : Int) := by
  obtain ⟨r, h1, h2⟩ := enter l s (fun r => r = ((cloN l s : Nat) : Int)) (loop hl hn 33 s hs (by omega) rfl)
  rw [← h1]; exact h2
end drossref09_Close
def cloB (l : List api_FD) (s : Nat) : Bool := l.all fun d => !decide (sN d.Lhs &&& s = sN d.Lhs) || decide (sN d.Rhs &&& s = sN d.Rhs)
theorem cloB_iff {l : List api_FD} {s : Nat} : cloB l s = true ↔ IsClo l s := by
  unfold cloB IsClo
  rw [List.all_eq_true]
  constructor
  · intro h d hd hs
    have := h d hd
    rw [decide_eq_true (sub_iff.2 hs), Bool.not_true, Bool.false_or, decide_eq_true_iff] at this
    exact sub_iff.1 this
  · intro h d hd
    by_cases hs : sN d.Lhs &&& s = sN d.Lhs
    · rw [decide_eq_true hs, decide_eq_true (sub_iff.2 (h d hd (sub_iff.1 hs)))]; rfl
    · rw [decide_eq_false hs]; rfl
theorem closure_enlarges.spec {l : List api_FD} (hl : FdOK l) (hn : l.length < 1000000000) {s : Nat} (hs : s < 2 ^ 32) : ∃ r, closure_enlarges.C l s r ∧ (r < 0 ↔ cloB l s = true) := by
  obtain ⟨r, h1, h2⟩ := closure_enlarges.enter l s (fun r => (r < 0 ↔ cloB l s = true)) (by
    have : ∀ (r : List api_FD) (k : Nat), l.drop k = r → (cloB r s = cloB l s) → closure_enlarges.L1 l s k (fun r => (r < 0 ↔ cloB l s = true)) := by
      intro r
      induction r with
      | nil =>
        intro k hd he
        have := drop_ge hd
        apply closure_enlarges.L1_step
        rw [if_neg (by omega), ← he]
        simp [cloB]
      | cons d r ih =>
        intro k hd he
        have hlt := drop_lt hd
        have hd' := hl d (List.mem_of_getElem? (drop_get hd))
        have ec : cloB (d :: r) s = ((!decide (sN d.Lhs &&& s = sN d.Lhs) || decide (sN d.Rhs &&& s = sN d.Rhs)) && cloB r s) := rfl
        rw [ec] at he
        have next : cloB r s = cloB l s → closure_enlarges.L2 l s k (fun r => (r < 0 ↔ cloB l s = true)) := fun h => by
          apply closure_enlarges.L2_step
          rw [wrap_succ (by omega)]
          exact ih (k + 1) (drop_next hd) h
        apply closure_enlarges.L1_step
        rw [if_pos (by omega)]
        refine ⟨d, lget_drop hd, ?_⟩
        by_cases h1 : sN d.Lhs &&& s = sN d.Lhs
        · rw [if_pos ((andNot_zero hd'.1 hs).2 h1)]
          by_cases h2 : sN d.Rhs &&& s = sN d.Rhs
          · rw [if_pos ((andNot_zero hd'.2 hs).2 h2)]
            exact next (by rw [← he, decide_eq_true h1, decide_eq_true h2]; rfl)
          · rw [if_neg (fun hh => h2 ((andNot_zero hd'.2 hs).1 hh)), ← he, decide_eq_true h1, decide_eq_false h2]
            simp
        · rw [if_neg (fun hh => h1 ((andNot_zero hd'.1 hs).1 hh))]
          exact next (by rw [← he, decide_eq_false h1]; rfl)
    exact this l 0 rfl rfl)
  exact ⟨r, h2, h1⟩
theorem drossref09_IsClosed.spec {l : List api_FD} (hl : FdOK l) (hn : l.length < 1000000000) {s : Nat} (hs : s < 2 ^ 32) : drossref09_IsClosed.C l s (cloB l s) := by
  obtain ⟨r, h1, h2⟩ := drossref09_IsClosed.enter l s (fun r => r = cloB l s) (by
    have : ∀ (r : List api_FD) (k : Nat), l.drop k = r → (cloB r s = cloB l s) → drossref09_IsClosed.L1 l s k (fun r => r = cloB l s) := by
      intro r
      induction r with
      | nil =>
        intro k hd he
        have := drop_ge hd
        apply drossref09_IsClosed.L1_step
        rw [if_neg (by omega), ← he]
        rfl
      | cons d r ih =>
        intro k hd he
        have hlt := drop_lt hd
        have hd' := hl d (List.mem_of_getElem? (drop_get hd))
        have ec : cloB (d :: r) s = ((!decide (sN d.Lhs &&& s = sN d.Lhs) || decide (sN d.Rhs &&& s = sN d.Rhs)) && cloB r s) := rfl
        rw [ec] at he
        have next : cloB r s = cloB l s → drossref09_IsClosed.L2 l s k (fun r => r = cloB l s) := fun h => by
          apply drossref09_IsClosed.L2_step
          rw [wrap_succ (by omega)]
          exact ih (k + 1) (drop_next hd) h
        apply drossref09_IsClosed.L1_step
        rw [if_pos (by omega)]
        refine ⟨d, lget_drop hd, _, sub_spec hd'.1 hs, ?_⟩
        by_cases h1 : sN d.Lhs &&& s = sN d.Lhs
        · rw [if_pos (decide_eq_true h1)]
          refine ⟨_, sub_spec hd'.2 hs, ?_⟩
          by_cases h2 : sN d.Rhs &&& s = sN d.Rhs
          · rw [if_pos (decide_eq_true h2)]
            exact next (by rw [← he, decide_eq_true h1, decide_eq_true h2]; rfl)
          · rw [if_neg (by rw [decide_eq_false h2]; decide), ← he, decide_eq_true h1, decide_eq_false h2]
            rfl
        · rw [if_neg (by rw [decide_eq_false h1]; decide)]
          exact next (by rw [← he, decide_eq_false h1]; rfl)
    exact this l 0 rfl rfl)
  rw [← h1]; exact h2
def closedL (n : Nat) (l : List api_FD) : List Int := (subsF (2 ^ n - 1)).filter fun y => cloB l (sN y)
def closedE (n : Int) (l : List api_FD) : List Int × Int := if n < 0 ∨ 16 < n then ([], 7) else if 12 < n then ([], 3) else if fdsE n l = 0 then (closedL n.toNat l, 0) else ([], fdsE n l)
theorem pow_full {n : Nat} (hn : n ≤ 16) : IntKind.wrap .u32 (shlw .u32 1 (n : Int) - 1) = ((2 ^ n - 1 : Nat) : Int) := by
  have hp := pow16 hn
  have e : shlw .u32 1 (n : Int) = ((2 ^ n : Nat) : Int) := shl1_nat (k := .u32) (by simp only [top]; omega)
  rw [e, show (((2 ^ n : Nat) : Int) - 1) = ((2 ^ n - 1 : Nat) : Int) by omega]
  exact wrap_top (k := .u32) (by simp only [top]; omega)
theorem closure_Closed.spec {n : Int} {l : List api_FD} (hl : FdOK l) (hn : l.length < 1000000000) : closure_Closed.C n l (closedE n l) := by
  obtain ⟨r, h1, h2⟩ := closure_Closed.enter n l (fun r => r = closedE n l) (by
    unfold closedE
    by_cases a : n < 0
    · rw [if_pos a, if_pos (.inl a)]
    rw [if_neg a]
    by_cases b : 16 < n
    · rw [if_pos b, if_pos (.inr b)]
    rw [if_neg b, if_neg (show ¬(n < 0 ∨ 16 < n) by omega)]
    by_cases c : 12 < n
    · rw [if_pos c, if_pos c]
    rw [if_neg c, if_neg c]
    refine ⟨_, closure_Valid.spec hl, ?_⟩
    split
    · obtain ⟨m, rfl⟩ : ∃ m : Nat, n = m := ⟨n.toNat, by omega⟩
      have hp := pow16 (n := m) (by omega)
      rw [pow_full (by omega), Int.toNat_natCast]
      refine ⟨by omega, _, attrset_Subsets.spec (by omega), ?_⟩
      unfold closedL
      have hu := subs_all (n := m) (by omega)
      have hlen := subs_len (n := m) (by omega)
      generalize subsF (2 ^ m - 1) = q at *
      have : ∀ (r : List Int) (k : Nat) (out : List Int), q.drop k = r → out.length ≤ k → out ++ (r.filter fun y => cloB l (sN y)) = (q.filter fun y => cloB l (sN y)) → closure_Closed.L1 l out q k (fun r => r = (q.filter fun y => cloB l (sN y), 0)) := by
        intro r
        induction r with
        | nil =>
          intro k out hd hk he
          have := drop_ge hd
          apply closure_Closed.L1_step
          rw [if_neg (by omega), ← he]
          simp
        | cons y r ih =>
          intro k out hd hk he
          have hlt := drop_lt hd
          have hy := hu y (List.mem_of_getElem? (drop_get hd))
          apply closure_Closed.L1_step
          rw [if_pos (by omega)]
          obtain ⟨e, e1, e2⟩ := closure_enlarges.spec hl hn hy.lt
          rw [← hy.eq] at e1
          refine ⟨y, lget_drop hd, e, e1, ?_⟩
          by_cases hc : cloB l (sN y) = true
          · rw [if_pos (e2.2 hc)]
            refine ⟨by omega, ?_⟩
            apply closure_Closed.L2_step
            rw [wrap_succ (by omega)]
            refine ih (k + 1) _ (drop_next hd) (by rw [List.length_append, List.length_singleton]; omega) ?_
            rw [← he, List.filter_cons_of_pos (p := fun y => cloB l (sN y)) hc]; simp
          · rw [if_neg (fun h => hc (e2.1 h))]
            apply closure_Closed.L2_step
            rw [wrap_succ (by omega)]
            refine ih (k + 1) _ (drop_next hd) (by omega) ?_
            rw [← he, List.filter_cons_of_neg (p := fun y => cloB l (sN y)) hc]
      exact this q 0 [] rfl (Nat.le_refl _) rfl
    · rfl)
  rw [← h1]; exact h2
theorem full_small {n : Nat} (hn : n ≤ 16) : fullN n = 2 ^ n - 1 := by unfold fullN; rw [Nat.min_eq_left (by omega)]
theorem rng_succ (n c : Nat) (p : Int → Bool) : (((List.range (c + 1)).map fun (m : Nat) => (m : Int)).filter p) = (((List.range c).map fun (m : Nat) => (m : Int)).filter p) ++ (if p (c : Int) = true then [(c : Int)] else []) := by
  rw [List.range_succ, List.map_append, List.filter_append, List.map_cons, List.map_nil, List.filter_cons, List.filter_nil]
theorem drossref09_Closed.spec {n : Int} {l : List api_FD} (hl : FdOK l) (hn : l.length < 1000000000) : drossref09_Closed.C n l (closedE n l) := by
  obtain ⟨r, h1, h2⟩ := drossref09_Closed.enter n l (fun r => r = closedE n l) (by
    have two : (0 ≤ n ∧ n ≤ 16 → ¬ 12 < n) → drossref09_Closed.L2 n l (fun r => r = closedE n l) := fun hq => by
      apply drossref09_Closed.L2_step
      refine ⟨_, drossref09_Valid.spec hl, ?_⟩
      split
      · rename_i h0
        have h16 := fdsE_n h0
        have h12 := hq h16
        have e : closedE n l = (closedL n.toNat l, 0) := by
          unfold closedE
          rw [if_neg (by omega), if_neg h12, if_pos h0]
        rw [e]
        obtain ⟨m, rfl⟩ : ∃ m : Nat, n = m := ⟨n.toNat, by omega⟩
        have hp := pow16 (n := m) (by omega)
        rw [Int.toNat_natCast]
        unfold closedL
        rw [pick_order (by omega)]
        have hf := full_small (n := m) (by omega)
        have fin : drossref09_Closed.L1 m l (((List.range (2 ^ m)).map fun (m : Nat) => (m : Int)).filter fun y => cloB l (sN y)) ((2 ^ m : Nat) : Int) (fun r => r = (ordL ((rngL m).filter fun y => cloB l (sN y)), 0)) := by
          apply drossref09_Closed.L1_step
          refine ⟨_, drossref02_Full.spec, ?_⟩
          rw [hf, if_neg (by omega)]
          refine ⟨_, drossref02_Order.spec ?_ ?_, rfl⟩
          · refine Nat.le_trans (List.length_filter_le _ _) ?_
            rw [List.length_map, List.length_range]; omega
          · exact fun y hy => rngL_all (n := m) (by omega) y (List.mem_filter.1 hy).1
        have : ∀ (d c : Nat), 2 ^ m - c ≤ d → c ≤ 2 ^ m → drossref09_Closed.L1 m l (((List.range c).map fun (m : Nat) => (m : Int)).filter fun y => cloB l (sN y)) c (fun r => r = (ordL ((rngL m).filter fun y => cloB l (sN y)), 0)) := by
          intro d
          induction d with
          | zero =>
            intro c h1 h2
            have : c = 2 ^ m := by omega
            subst this; exact fin
          | succ d ih =>
            intro c h1 h2
            by_cases hlt : c < 2 ^ m
            · have := ih (c + 1) (by omega) (by omega)
              rw [rng_succ m] at this
              have hlen : (((List.range c).map fun (m : Nat) => (m : Int)).filter fun y => cloB l (sN y)).length ≤ c := by
                refine Nat.le_trans (List.length_filter_le _ _) ?_
                rw [List.length_map, List.length_range]; omega
              have ew : IntKind.wrap .u32 ((c : Int) + 1) = ((c + 1 : Nat) : Int) := by
                rw [show (c : Int) + 1 = ((c + 1 : Nat) : Int) by omega]
                exact wrap_top (k := .u32) (by simp only [top]; omega)
              apply drossref09_Closed.L1_step
              refine ⟨_, drossref02_Full.spec, ?_⟩
              rw [hf, if_pos (by omega)]
              refine ⟨_, drossref09_IsClosed.spec hl hn (s := c) (by omega), ?_⟩
              rw [sN_nat] at this
              by_cases hc : cloB l c = true
              · rw [if_pos hc] at this ⊢
                refine ⟨by omega, ?_⟩
                apply drossref09_Closed.L3_step
                rw [ew]; exact this
              · rw [if_neg hc] at this ⊢
                rw [List.append_nil] at this
                apply drossref09_Closed.L3_step
                rw [ew]; exact this
            · have : c = 2 ^ m := by omega
              subst this; exact fin
        exact this (2 ^ m) 0 (Nat.sub_le _ _) (Nat.zero_le _)
      · rename_i h0
        unfold closedE
        by_cases a : n < 0 ∨ 16 < n
        · have e7 : fdsE n l = 7 := by unfold fdsE; rw [if_pos a]
          rw [if_pos a, e7]
        · rw [if_neg a, if_neg (hq (by omega)), if_neg h0]
    split
    · split
      · split
        · unfold closedE
          rw [if_neg (by omega), if_pos (by assumption)]
        · exact two (by omega)
      · exact two (by omega)
    · exact two (by omega))
  rw [← h1]; exact h2
end Go.Own

namespace Go.Own
def errA (n : Int) (l : List api_FD) : Int := if fdsE n l = 0 then (if 10 < n then 3 else 0) else fdsE n l
theorem armstrong_check.spec {n : Int} {l : List api_FD} (hl : FdOK l) : armstrong_check.C n l (errA n l) := by
  obtain ⟨r, h1, h2⟩ := armstrong_check.enter n l (fun r => r = errA n l) (by
    refine ⟨_, closure_Valid.spec hl, ?_⟩
    unfold errA
    split
    · split <;> rfl
    · rfl)
  rw [← h1]; exact h2
theorem drossref19_Error.spec {n : Int} {l : List api_FD} (hl : FdOK l) : drossref19_Error.C n l (errA n l) := by
  obtain ⟨r, h1, h2⟩ := drossref19_Error.enter n l (fun r => r = errA n l) (by
    refine ⟨_, drossref09_Valid.spec hl, ?_⟩
    unfold errA
    split
    · split <;> rfl
    · rfl)
  rw [← h1]; exact h2
theorem errA_n {n : Int} {l : List api_FD} (h : errA n l = 0) : 0 ≤ n ∧ n ≤ 10 ∧ fdsE n l = 0 := by
  unfold errA at h
  split at h
  · rename_i h0
    have := fdsE_n h0
    split at h
    · cases h
    · exact ⟨by omega, by omega, h0⟩
  · rename_i h0; exact absurd h h0
theorem closedE_ok {n : Int} {l : List api_FD} (h : errA n l = 0) : closedE n l = (closedL n.toNat l, 0) := by
  obtain ⟨h1, h2, h3⟩ := errA_n h
  unfold closedE
  rw [if_neg (by omega), if_neg (by omega), if_pos h3]
theorem armstrong_full.spec {n : Nat} (hn : n ≤ 16) : armstrong_full.C n ((2 ^ n - 1 : Nat) : Int) := by
  obtain ⟨r, h1, h2⟩ := armstrong_full.enter n (fun r => r = ((2 ^ n - 1 : Nat) : Int)) ⟨by omega, pow_full hn⟩
  rw [← h1]; exact h2
theorem full_spec {n : Nat} (hn : n ≤ 16) : drossref02_Full.C n ((2 ^ n - 1 : Nat) : Int) := by
  rw [← full_small hn]; exact drossref02_Full.spec
def meetS (s m c : Int) : Int := if c = s then m else if sN s &&& sN c = sN s then bAnd .u32 m c else m
def meetF (s : Int) (m : Int) : List Int → Int
  | [] => m
  | c :: r => meetF s (meetS s m c) r
def irrB (n : Nat) (cl : List Int) (s : Int) : Bool := if s = ((2 ^ n - 1 : Nat) : Int) then false else if meetF s ((2 ^ n - 1 : Nat) : Int) cl = s then false else true
def irrL (n : Nat) (cl : List Int) : List Int := cl.filter (irrB n cl)
def irrF (n : Int) (l : List api_FD) : List Int × Int := if errA n l = 0 then (irrL n.toNat (closedL n.toNat l), 0) else ([], errA n l)
theorem and_sub {c s : Int} (hc : U32 c) (hs : U32 s) : bAnd .u32 c s = s ↔ sN s &&& sN c = sN s := by
  have e : bAnd .u32 c s = ((sN c &&& sN s : Nat) : Int) := by
    conv => lhs; rw [hc.eq, hs.eq]
    exact bAnd_nat hc.top hs.top
  have es := hs.eq
  rw [e, Nat.and_comm]
  omega
theorem sub_two {a b : Int} (ha : U32 a) (hb : U32 b) : drossref02_Sub.C a b (decide (sN a &&& sN b = sN a)) := by
  have := drossref02_Sub.spec (a := sN a) (b := sN b) ha.lt hb.lt
  rw [← ha.eq, ← hb.eq] at this; exact this
theorem closedL_len {n : Nat} {l : List api_FD} (hn : n ≤ 10) : (closedL n l).length ≤ 1024 := by
  unfold closedL
  refine Nat.le_trans (List.length_filter_le _ _) ?_
  rw [subs_len (by omega)]
  exact Nat.pow_le_pow_right (n := 2) (by omega) hn
theorem closedL_all {n : Nat} {l : List api_FD} (hn : n ≤ 10) : AllU (closedL n l) := fun y hy => subs_all (by omega) y (List.mem_filter.1 hy).1
namespace armstrong_Irreducible
theorem inner {n : Nat} {cl : List Int} {e : Int} {out : List Int} {i : Nat} {s : Int} {φ : List Int × Int → Prop} (hn : n ≤ 10) (hu : AllU cl) (hl : cl.length ≤ 1024) (hs : U32 s) (ho : out.length ≤ 1024) (hi : i ≤ 1024)
    (h : L1 n (cl, e) (if irrB n cl s = true then out ++ [s] else out) ((i + 1 : Nat) : Int) φ) : ∀ (r : List Int) (k : Nat) (m : Int), cl.drop k = r → meetF s m r = meetF s ((2 ^ n - 1 : Nat) : Int) cl → L2 n (cl, e) out s m i k φ := by
  intro r
  induction r with
  | nil =>
    intro k m hd he
    have := drop_ge hd
    have he : m = meetF s ((2 ^ n - 1 : Nat) : Int) cl := he
    have skip : irrB n cl s = false → L4 n (cl, e) out i φ := fun hb => by
      apply L4_step
      rw [wrap_succ (by omega)]
      rw [if_neg (by rw [hb]; decide)] at h; exact h
    apply L2_step
    rw [if_neg (by show ¬ ((k : Int) < (cl.length : Int)); omega)]
    refine ⟨_, armstrong_full.spec (by omega), ?_⟩
    by_cases h1 : s = ((2 ^ n - 1 : Nat) : Int)
    · rw [if_pos h1]
      exact skip (by unfold irrB; rw [if_pos h1])
    · rw [if_neg h1]
      by_cases h2 : m = s
      · rw [if_pos h2]
        exact skip (by unfold irrB; rw [if_neg h1, if_pos (by rw [← he]; exact h2)])
      · rw [if_neg h2]
        have hb : irrB n cl s = true := by unfold irrB; rw [if_neg h1, if_neg (by rw [← he]; exact h2)]
        refine ⟨by omega, ?_⟩
        apply L4_step
        rw [wrap_succ (by omega)]
        rw [if_pos hb] at h; exact h
  | cons c r ih =>
    intro k m hd he
    have hlt := drop_lt hd
    have hc := hu c (List.mem_of_getElem? (drop_get hd))
    have next : L3 n (cl, e) out s (meetS s m c) i k φ := by
      apply L3_step
      rw [wrap_succ (by omega)]
      exact ih (k + 1) _ (drop_next hd) he
    apply L2_step
    rw [if_pos (by show (k : Int) < (cl.length : Int); omega)]
    refine ⟨c, lget_drop hd, ?_⟩
    unfold meetS at next
    by_cases h1 : c = s
    · rw [if_pos h1] at next ⊢; exact next
    · rw [if_neg h1] at next ⊢
      by_cases h2 : sN s &&& sN c = sN s
      · rw [if_pos h2] at next
        rw [if_pos ((and_sub hc hs).2 h2)]; exact next
      · rw [if_neg h2] at next
        rw [if_neg (fun hh => h2 ((and_sub hc hs).1 hh))]; exact next
theorem spec {n : Int} {l : List api_FD} (hl : FdOK l) (hn : l.length < 1000000000) : C n l (irrF n l) := by
  obtain ⟨r, h1, h2⟩ := enter n l (fun r => r = irrF n l) (by
    refine ⟨_, armstrong_check.spec hl, ?_⟩
    unfold irrF
    split
    · rename_i h0
      obtain ⟨g1, g2, g3⟩ := errA_n h0
      have hc := closure_Closed.spec (n := n) hl hn
      rw [closedE_ok h0] at hc
      refine ⟨_, hc, ?_⟩
      rw [if_pos rfl]
      obtain ⟨m, rfl⟩ : ∃ m : Nat, n = m := ⟨n.toNat, by omega⟩
      rw [Int.toNat_natCast]
      have hu := closedL_all (n := m) (l := l) (by omega)
      have hlen := closedL_len (n := m) (l := l) (by omega)
      generalize closedL m l = cl at *
      unfold irrL
      have : ∀ (r : List Int) (k : Nat) (out : List Int), cl.drop k = r → k ≤ cl.length → out.length ≤ k → out ++ r.filter (irrB m cl) = cl.filter (irrB m cl) → L1 m (cl, 0) out k (fun r => r = (cl.filter (irrB m cl), 0)) := by
        intro r
        induction r with
        | nil =>
          intro k out hd hk ho he
          have := drop_ge hd
          apply L1_step
          rw [if_neg (by show ¬ ((k : Int) < (cl.length : Int)); omega), ← he]
          simp
        | cons s r ih =>
          intro k out hd hk ho he
          have hlt := drop_lt hd
          have hs := hu s (List.mem_of_getElem? (drop_get hd))
          apply L1_step
          rw [if_pos (by show (k : Int) < (cl.length : Int); omega)]
          refine ⟨s, lget_drop hd, _, armstrong_full.spec (by omega), ?_⟩
          refine inner (by omega) hu hlen hs (by omega) (by omega) ?_ cl 0 _ rfl rfl
          refine ih (k + 1) _ (drop_next hd) (by omega) ?_ ?_
          · split
            · rw [List.length_append, List.length_singleton]; omega
            · omega
          · rw [← he]
            by_cases hb : irrB m cl s = true
            · rw [if_pos hb, List.filter_cons_of_pos hb]; simp
            · rw [if_neg hb, List.filter_cons_of_neg hb]
      exact this cl 0 [] rfl (Nat.zero_le _) (Nat.le_refl _) rfl
    · rfl)
  rw [← h1]; exact h2
end armstrong_Irreducible
namespace drossref19_Irreducible
theorem inner {n : Nat} {cl : List Int} {out : List Int} {i : Nat} {s : Int} {φ : List Int × Int → Prop} (hn : n ≤ 10) (hu : AllU cl) (hl : cl.length ≤ 1024) (hsi : cl[i]? = some s) (ho : out.length ≤ 1024) (hi : i ≤ 1024)
    (h : L1 n cl (if irrB n cl s = true then out ++ [s] else out) ((i + 1 : Nat) : Int) φ) : ∀ (r : List Int) (k : Nat) (m : Int), cl.drop k = r → meetF s m r = meetF s ((2 ^ n - 1 : Nat) : Int) cl → L2 n cl out i m k φ := by
  have hs := hu s (List.mem_of_getElem? hsi)
  intro r
  induction r with
  | nil =>
    intro k m hd he
    have := drop_ge hd
    have he : m = meetF s ((2 ^ n - 1 : Nat) : Int) cl := he
    have skip : irrB n cl s = false → L4 n cl out i φ := fun hb => by
      apply L4_step
      rw [wrap_succ (by omega)]
      rw [if_neg (by rw [hb]; decide)] at h; exact h
    apply L2_step
    rw [if_neg (by omega)]
    refine ⟨s, lget_of hsi, _, full_spec (by omega), ?_⟩
    by_cases h1 : s = ((2 ^ n - 1 : Nat) : Int)
    · rw [if_pos h1]
      exact skip (by unfold irrB; rw [if_pos h1])
    · rw [if_neg h1]
      by_cases h2 : m = s
      · rw [if_pos h2]
        exact skip (by unfold irrB; rw [if_neg h1, if_pos (by rw [← he]; exact h2)])
      · rw [if_neg h2]
        have hb : irrB n cl s = true := by unfold irrB; rw [if_neg h1, if_neg (by rw [← he]; exact h2)]
        refine ⟨by omega, ?_⟩
        apply L4_step
        rw [wrap_succ (by omega)]
        rw [if_pos hb] at h; exact h
  | cons c r ih =>
    intro k m hd he
    have hlt := drop_lt hd
    have hc := hu c (List.mem_of_getElem? (drop_get hd))
    have next : L3 n cl out i (meetS s m c) k φ := by
      apply L3_step
      rw [wrap_succ (by omega)]
      exact ih (k + 1) _ (drop_next hd) he
    apply L2_step
    rw [if_pos (by omega)]
    refine ⟨c, lget_drop hd, s, lget_of hsi, ?_⟩
    unfold meetS at next
    by_cases h1 : c = s
    · rw [if_pos h1] at next ⊢; exact next
    · rw [if_neg h1] at next ⊢
      refine ⟨_, sub_two hs hc, ?_⟩
      by_cases h2 : sN s &&& sN c = sN s
      · rw [if_pos h2] at next
        rw [if_pos (decide_eq_true h2)]; exact next
      · rw [if_neg h2] at next
        rw [if_neg (by rw [decide_eq_false h2]; decide)]; exact next
theorem spec {n : Int} {l : List api_FD} (hl : FdOK l) (hn : l.length < 1000000000) : C n l (irrF n l) := by
  obtain ⟨r, h1, h2⟩ := enter n l (fun r => r = irrF n l) (by
    refine ⟨_, drossref19_Error.spec hl, ?_⟩
    unfold irrF
    split
    · rename_i h0
      obtain ⟨g1, g2, g3⟩ := errA_n h0
      have hc := drossref09_Closed.spec (n := n) hl hn
      rw [closedE_ok h0] at hc
      obtain ⟨q, q1, q2⟩ := drossref19_Closed.enter n l (fun r => r = closedL n.toNat l) ⟨_, hc, rfl⟩
      subst q1
      refine ⟨_, q2, ?_⟩
      obtain ⟨m, rfl⟩ : ∃ m : Nat, n = m := ⟨n.toNat, by omega⟩
      rw [Int.toNat_natCast]
      have hu := closedL_all (n := m) (l := l) (by omega)
      have hlen := closedL_len (n := m) (l := l) (by omega)
      generalize closedL m l = cl at *
      unfold irrL
      have : ∀ (r : List Int) (k : Nat) (out : List Int), cl.drop k = r → k ≤ cl.length → out.length ≤ k → out ++ r.filter (irrB m cl) = cl.filter (irrB m cl) → L1 m cl out k (fun r => r = (cl.filter (irrB m cl), 0)) := by
        intro r
        induction r with
        | nil =>
          intro k out hd hk ho he
          have := drop_ge hd
          apply L1_step
          rw [if_neg (by omega), ← he]
          simp
        | cons s r ih =>
          intro k out hd hk ho he
          have hlt := drop_lt hd
          apply L1_step
          rw [if_pos (by omega)]
          refine ⟨_, full_spec (by omega), ?_⟩
          refine inner (by omega) hu hlen (drop_get hd) (by omega) (by omega) ?_ cl 0 _ rfl rfl
          refine ih (k + 1) _ (drop_next hd) (by omega) ?_ ?_
          · split
            · rw [List.length_append, List.length_singleton]; omega
            · omega
          · rw [← he]
            by_cases hb : irrB m cl s = true
            · rw [if_pos hb, List.filter_cons_of_pos hb]; simp
            · rw [if_neg hb, List.filter_cons_of_neg hb]
      exact this cl 0 [] rfl (Nat.zero_le _) (Nat.le_refl _) rfl
    · rfl)
  rw [← h1]; exact h2
end drossref19_Irreducible
def triI (r : Nat) : Int := Int.tdiv ((r : Int) * ((r : Int) - 1)) 2
def lstGo (m : Nat) : Nat → Nat → Nat
  | 0, r => r
  | f + 1, r => if triI r < (m : Int) then lstGo m f (r + 1) else r
def lstF (n : Int) (l : List api_FD) : Int × Int := if (irrF n l).2 = 0 then (((lstGo (irrF n l).1.length 100 0 : Nat) : Int), 0) else (0, (irrF n l).2)
theorem tri_wrap {r : Nat} (h : r ≤ 100) : IntKind.wrap .i64 (Int.tdiv (IntKind.wrap .i64 ((r : Int) * (IntKind.wrap .i64 ((r : Int) - 1)))) 2) = triI r := by
  have : ∀ i : Fin 101, IntKind.wrap .i64 (Int.tdiv (IntKind.wrap .i64 ((i.val : Int) * (IntKind.wrap .i64 ((i.val : Int) - 1)))) 2) = triI i.val := by decide +kernel
  exact this ⟨r, by omega⟩
theorem tri_loop {m : Nat} (hm : m ≤ 1024) {L : Int → Prop} {φ : Int × Int → Prop} (step : ∀ r : Nat, r ≤ 100 → (if triI r < (m : Int) then L ((r + 1 : Nat) : Int) else φ ((r : Int), 0)) → L r) : ∀ (f r : Nat), r + f = 100 → φ (((lstGo m f r : Nat) : Int), 0) → L r
  | 0, r, h, hp => by
    have : r = 100 := by omega
    subst this
    refine step 100 (by omega) ?_
    have e : triI 100 = 4950 := by decide +kernel
    rw [e, if_neg (by omega)]
    exact hp
  | f + 1, r, h, hp => by
    refine step r (by omega) ?_
    rw [lstGo] at hp
    by_cases hc : triI r < (m : Int)
    · rw [if_pos hc] at hp ⊢
      exact tri_loop hm step f (r + 1) (by omega) hp
    · rw [if_neg hc] at hp ⊢
      exact hp
theorem irrF_len {n : Int} {l : List api_FD} : (irrF n l).1.length ≤ 1024 := by
  unfold irrF
  split
  · rename_i h0
    obtain ⟨g1, g2, g3⟩ := errA_n h0
    exact Nat.le_trans (List.length_filter_le _ _) (closedL_len (by omega))
  · simp
end Go.Own

namespace Go.Own
def CloP (n : Nat) (l : List api_FD) (m : Nat) : Prop := m < 2 ^ n ∧ IsClo l m
theorem closedL_mem {n : Nat} {l : List api_FD} (hn : n ≤ 12) {y : Int} : y ∈ closedL n l ↔ ∃ m : Nat, y = m ∧ CloP n l m := by
  unfold closedL CloP
  rw [List.mem_filter, subs_mem hn]
  constructor
  · rintro ⟨⟨m, rfl, hm⟩, h⟩
    rw [sN_nat] at h
    exact ⟨m, rfl, hm, cloB_iff.1 h⟩
  · rintro ⟨m, rfl, hm, h⟩
    exact ⟨⟨m, rfl, hm⟩, by rw [sN_nat]; exact cloB_iff.2 h⟩
theorem meetF_spec {s : Int} : ∀ {cl : List Int} {m : Int}, AllU cl → U32 m → U32 (meetF s m cl) ∧ ∀ i, (sN (meetF s m cl)).testBit i = true ↔ (sN m).testBit i = true ∧ ∀ c ∈ cl, c ≠ s → subN (sN s) (sN c) → (sN c).testBit i = true
  | [], m, _, hm => ⟨hm, fun i => by simp [meetF]⟩
  | c :: r, m, hu, hm => by
    have hc := hu c (by simp)
    have hu' : AllU r := fun y hy => hu y (by simp [hy])
    have e : bAnd .u32 m c = ((sN m &&& sN c : Nat) : Int) := by
      conv => lhs; rw [hm.eq, hc.eq]
      exact bAnd_nat hm.top hc.top
    simp only [meetF, meetS]
    by_cases h1 : c = s
    · rw [if_pos h1]
      obtain ⟨a, b⟩ := meetF_spec (s := s) hu' hm
      refine ⟨a, fun i => ?_⟩
      rw [b]
      simp only [List.forall_mem_cons, h1]
      constructor
      · rintro ⟨q1, q3⟩; exact ⟨q1, fun h => absurd rfl h, q3⟩
      · rintro ⟨q1, _, q3⟩; exact ⟨q1, q3⟩
    · rw [if_neg h1]
      by_cases h2 : sN s &&& sN c = sN s
      · rw [if_pos h2]
        have hU : U32 (bAnd .u32 m c) := by
          rw [e]; exact U32.of (Nat.lt_of_le_of_lt Nat.and_le_left hm.lt)
        obtain ⟨a, b⟩ := meetF_spec (s := s) hu' hU
        refine ⟨a, fun i => ?_⟩
        rw [b, e, sN_nat, Nat.testBit_and]
        simp only [List.forall_mem_cons, Bool.and_eq_true]
        constructor
        · rintro ⟨⟨q1, q2⟩, q3⟩; exact ⟨q1, fun _ _ => q2, q3⟩
        · rintro ⟨q1, q2, q3⟩; exact ⟨⟨q1, q2 h1 (sub_iff.1 h2)⟩, q3⟩
      · rw [if_neg h2]
        obtain ⟨a, b⟩ := meetF_spec (s := s) hu' hm
        refine ⟨a, fun i => ?_⟩
        rw [b]
        simp only [List.forall_mem_cons]
        constructor
        · rintro ⟨q1, q3⟩; exact ⟨q1, fun _ h => absurd (sub_iff.2 h) h2, q3⟩
        · rintro ⟨q1, _, q3⟩; exact ⟨q1, q3⟩
def meetT (s m c : Int) : Int := if sN s &&& sN c = sN s then bAnd .u32 m c else m
def meetG (s : Int) (m : Int) : List Int → Int
  | [] => m
  | c :: r => meetG s (meetT s m c) r
theorem meetG_spec {s : Int} : ∀ {cl : List Int} {m : Int}, AllU cl → U32 m → U32 (meetG s m cl) ∧ ∀ i, (sN (meetG s m cl)).testBit i = true ↔ (sN m).testBit i = true ∧ ∀ c ∈ cl, subN (sN s) (sN c) → (sN c).testBit i = true
  | [], m, _, hm => ⟨hm, fun i => by simp [meetG]⟩
  | c :: r, m, hu, hm => by
    have hc := hu c (by simp)
    have hu' : AllU r := fun y hy => hu y (by simp [hy])
    have e : bAnd .u32 m c = ((sN m &&& sN c : Nat) : Int) := by
      conv => lhs; rw [hm.eq, hc.eq]
      exact bAnd_nat hm.top hc.top
    simp only [meetG, meetT]
    by_cases h2 : sN s &&& sN c = sN s
    · rw [if_pos h2]
      have hU : U32 (bAnd .u32 m c) := by
        rw [e]; exact U32.of (Nat.lt_of_le_of_lt Nat.and_le_left hm.lt)
      obtain ⟨a, b⟩ := meetG_spec (s := s) hu' hU
      refine ⟨a, fun i => ?_⟩
      rw [b, e, sN_nat, Nat.testBit_and]
      simp only [List.forall_mem_cons, Bool.and_eq_true]
      constructor
      · rintro ⟨⟨q1, q2⟩, q3⟩; exact ⟨q1, fun _ => q2, q3⟩
      · rintro ⟨q1, q2, q3⟩; exact ⟨⟨q1, q2 (sub_iff.1 h2)⟩, q3⟩
    · rw [if_neg h2]
      obtain ⟨a, b⟩ := meetG_spec (s := s) hu' hm
      refine ⟨a, fun i => ?_⟩
      rw [b]
      simp only [List.forall_mem_cons]
      constructor
      · rintro ⟨q1, q3⟩; exact ⟨q1, fun h => absurd (sub_iff.2 h) h2, q3⟩
      · rintro ⟨q1, _, q3⟩; exact ⟨q1, q3⟩
theorem pow_bit {n i : Nat} : (2 ^ n - 1).testBit i = decide (i < n) := Nat.testBit_two_pow_sub_one n i
def IrrP (n : Nat) (l : List api_FD) (m : Nat) : Prop := CloP n l m ∧ ∃ a, a < n ∧ m.testBit a = false ∧ ∀ c, CloP n l c → subN m c → c ≠ m → c.testBit a = true
theorem irr_mem {n : Nat} {l : List api_FD} (hn : n ≤ 10) {y : Int} : y ∈ irrL n (closedL n l) ↔ ∃ m : Nat, y = m ∧ IrrP n l m := by
  unfold irrL
  rw [List.mem_filter, closedL_mem (by omega)]
  have hp := pow16 (n := n) (by omega)
  have hu := closedL_all (n := n) (l := l) hn
  have hfu : U32 ((2 ^ n - 1 : Nat) : Int) := U32.of (by omega)
  constructor
  · rintro ⟨⟨m, rfl, hm⟩, h⟩
    refine ⟨m, rfl, hm, ?_⟩
    unfold irrB at h
    split at h
    · cases h
    rename_i h1
    split at h
    · cases h
    rename_i h2
    obtain ⟨ha, hb⟩ := meetF_spec (s := (m : Int)) hu hfu
    have hne : sN (meetF (m : Int) ((2 ^ n - 1 : Nat) : Int) (closedL n l)) ≠ m := fun he => h2 (by rw [ha.eq, he])
    have hsub : subN m (sN (meetF (m : Int) ((2 ^ n - 1 : Nat) : Int) (closedL n l))) := fun i hi => by
      rw [hb, sN_nat]
      refine ⟨?_, fun c _ _ hs => ?_⟩
      · rw [pow_bit, decide_eq_true_iff]; exact lt_iff.1 hm.1 i hi
      · rw [sN_nat] at hs; exact hs i hi
    have hex : ∃ i, (sN (meetF (m : Int) ((2 ^ n - 1 : Nat) : Int) (closedL n l))).testBit i = true ∧ m.testBit i = false := by
      false_or_by_contra
      rename_i hno
      refine hne (subN_anti (fun i hi => ?_) hsub)
      cases hmi : m.testBit i with
      | true => rfl
      | false => exact absurd ⟨i, hi, hmi⟩ hno
    obtain ⟨a, a1, a2⟩ := hex
    rw [hb, sN_nat, pow_bit, decide_eq_true_iff] at a1
    refine ⟨a, a1.1, a2, fun c hc hs hne => ?_⟩
    have := a1.2 (c : Int) ((closedL_mem (by omega)).2 ⟨c, rfl, hc⟩) (by omega) (by rw [sN_nat, sN_nat]; exact hs)
    rw [sN_nat] at this; exact this
  · rintro ⟨m, rfl, hm, a, a1, a2, a3⟩
    refine ⟨⟨m, rfl, hm⟩, ?_⟩
    have h1 : ¬ ((m : Int) = ((2 ^ n - 1 : Nat) : Int)) := fun he => by
      have : m = 2 ^ n - 1 := by omega
      rw [this, pow_bit, decide_eq_false_iff_not] at a2
      exact a2 a1
    obtain ⟨ha, hb⟩ := meetF_spec (s := (m : Int)) hu hfu
    have h2 : ¬ meetF (m : Int) ((2 ^ n - 1 : Nat) : Int) (closedL n l) = (m : Int) := fun he => by
      have := (hb a).2 ⟨by rw [sN_nat, pow_bit, decide_eq_true_iff]; exact a1, fun c hc hne hs => by
        obtain ⟨k, rfl, hk⟩ := (closedL_mem (by omega)).1 hc
        rw [sN_nat, sN_nat] at hs
        rw [sN_nat]
        exact a3 k hk hs (by omega)⟩
      rw [he, sN_nat, a2] at this
      cases this
    unfold irrB
    rw [if_neg h1, if_neg h2]
theorem irr_ex {n : Nat} {l : List api_FD} {s a : Nat} (ha : a < n) (hs : CloP n l s) (hsa : s.testBit a = false) : ∃ m, IrrP n l m ∧ subN s m ∧ m.testBit a = false := by
  have : ∀ d s, 2 ^ n - s ≤ d → CloP n l s → s.testBit a = false → ∃ m, IrrP n l m ∧ subN s m ∧ m.testBit a = false := by
    intro d
    induction d with
    | zero => intro s hd hs; have := hs.1; omega
    | succ d ih =>
      intro s hd hs hsa
      by_cases hx : ∃ c, CloP n l c ∧ subN s c ∧ c ≠ s ∧ c.testBit a = false
      · obtain ⟨c, c1, c2, c3, c4⟩ := hx
        have hlt : s < c := by
          have hle : s ≤ c := by
            have : s &&& c = s := sub_iff.2 c2
            rw [← this]; exact Nat.and_le_right
          omega
        have := hs.1
        obtain ⟨m, m1, m2, m3⟩ := ih c (by omega) c1 c4
        exact ⟨m, m1, subN_trans c2 m2, m3⟩
      · refine ⟨s, ⟨hs, a, ha, hsa, fun c hc hsc hne => ?_⟩, subN_refl s, hsa⟩
        cases hca : c.testBit a with
        | true => rfl
        | false => exact absurd ⟨c, hc, hsc, hne, hca⟩ hx
  exact this _ s (Nat.le_refl _) hs hsa
def FdIn (n : Nat) (l : List api_FD) : Prop := ∀ d ∈ l, sN d.Lhs < 2 ^ n ∧ sN d.Rhs < 2 ^ n
theorem fdsE_in {n : Int} {l : List api_FD} (h : fdsE n l = 0) : FdIn n.toNat l := by
  unfold fdsE at h
  split at h
  · cases h
  · split at h
    · cases h
    · split at h
      · rename_i ha
        intro d hd
        have := List.all_eq_true.1 ha d hd
        unfold inU at this
        simp only [Bool.and_eq_true, decide_eq_true_eq] at this
        exact this
      · cases h
theorem FdIn.r32 {n : Nat} {l : List api_FD} (h : FdIn n l) (hn : n ≤ 16) : ∀ d ∈ l, sN d.Rhs < 2 ^ 32 := fun d hd => by
  have := (h d hd).2
  have := pow16 hn
  omega
theorem clo_CloP {n : Nat} {l : List api_FD} (h : FdIn n l) (hn : n ≤ 16) {s : Nat} (hs : s < 2 ^ n) : CloP n l (cloN l s) :=
  ⟨cloN_lt (fun d hd => (h d hd).2) hs, cloN_clo (h.r32 hn) (by have := pow16 hn; omega)⟩
def MaxP (n : Nat) (l : List api_FD) (a m : Nat) : Prop := m < 2 ^ n ∧ (cloN l m).testBit a = false ∧ ∀ s, s < 2 ^ n → subN m s → (cloN l s).testBit a = false → s = m
theorem irr_max {n : Nat} {l : List api_FD} (h : FdIn n l) (hn : n ≤ 16) {m : Nat} : IrrP n l m ↔ ∃ a, a < n ∧ MaxP n l a m := by
  constructor
  · rintro ⟨hm, a, a1, a2, a3⟩
    refine ⟨a, a1, hm.1, by rw [cloN_eq hm.2]; exact a2, fun s hs hsub hsa => ?_⟩
    false_or_by_contra
    rename_i hne
    have hc := clo_CloP h hn hs
    have hne2 : cloN l s ≠ m := fun he => by
      have : subN s m := by rw [← he]; exact cloN_up
      exact hne (subN_anti this hsub)
    rw [a3 _ hc (subN_trans hsub cloN_up) hne2] at hsa
    cases hsa
  · rintro ⟨a, a1, m1, m2, m3⟩
    have hc := clo_CloP h hn m1
    have he := m3 _ hc.1 cloN_up (by rw [cloN_eq hc.2]; exact m2)
    rw [he] at hc
    refine ⟨hc, a, a1, by rw [he] at m2; exact m2, fun c hcc hsub hne => ?_⟩
    cases hca : c.testBit a with
    | true => rfl
    | false => exact absurd (m3 c hcc.1 hsub (by rw [cloN_eq hcc.2]; exact hca)) hne
end Go.Own

namespace Go.Own
def subB (a b : Int) : Bool := decide (sN a &&& sN b = sN a)
theorem andNot_sub {a b : Int} (ha : U32 a) (hb : U32 b) : (bAndNot .u32 a b == 0) = subB a b := by
  have e : bAndNot .u32 a b = ((ndiff (sN a) (sN b) : Nat) : Int) := by
    conv => lhs; rw [ha.eq, hb.eq]
    exact bAndNot_nat ha.top hb.top
  rw [e]
  unfold subB
  rw [Bool.eq_iff_iff, beq_iff_eq, decide_eq_true_iff, sub_iff, ← ndiff_zero]
  omega
theorem subB.spec {a b : Int} (ha : U32 a) (hb : U32 b) : drossref02_Sub.C a b (subB a b) := by
  have := drossref02_Sub.spec (a := sN a) (b := sN b) ha.lt hb.lt
  rw [← ha.eq, ← hb.eq] at this
  exact this
theorem attrset_Maximal_1.spec {a b : Int} (ha : U32 a) (hb : U32 b) : attrset_Maximal_1.C a b (subB a b) := by
  obtain ⟨r, h1, h2⟩ := attrset_Maximal_1.enter a b (fun r => r = subB a b) (by
    have e := andNot_sub ha hb
    rw [e])
  rw [← h1]; exact h2
theorem attrset_keep_1_1.spec {a b : Int} (ha : U32 a) (hb : U32 b) : attrset_keep_1_1.C b a (!(a == b) && subB a b) := by
  obtain ⟨r, h1, h2⟩ := attrset_keep_1_1.enter b a (fun r => r = (!(a == b) && subB a b)) (by
    by_cases h : a = b
    · rw [if_pos h]; simp [h]
    · rw [if_neg h]
      refine ⟨_, attrset_Maximal_1.spec ha hb, ?_⟩
      simp [h])
  rw [← h1]; exact h2
theorem slices_ContainsFunc_sapi_Set_api_Set_attrset_keep_1_1.spec {l : List Int} {a : Int} (ha : U32 a) (hu : AllU l) (hl : l.length < 9223372036854775807) : slices_ContainsFunc_sapi_Set_api_Set_attrset_keep_1_1.C l a (l.any fun b => !(a == b) && subB a b) := by
  obtain ⟨q, g1, g2⟩ := slices_IndexFunc_sapi_Set_api_Set_attrset_keep_1_1.enter l a (fun r => r = ixI (fun b => !(a == b) && subB a b) l) (by
    refine index_loop (l := l) (p := fun b => !(a == b) && subB a b) (L := fun i => slices_IndexFunc_sapi_Set_api_Set_attrset_keep_1_1.L1 l a i _) (φ := fun r => r = ixI (fun b => !(a == b) && subB a b) l) ?_ ?_ rfl
    · intro h; apply slices_IndexFunc_sapi_Set_api_Set_attrset_keep_1_1.L1_step; rw [if_neg (by omega)]; exact h
    · intro k b hb hk h
      apply slices_IndexFunc_sapi_Set_api_Set_attrset_keep_1_1.L1_step
      rw [if_pos (by omega)]
      refine ⟨b, lget_of hb, _, attrset_keep_1_1.spec ha (hu b (List.mem_of_getElem? hb)), ?_⟩
      rw [wrap_succ (by omega)]; exact h)
  subst g1
  obtain ⟨r, h1, h2⟩ := slices_ContainsFunc_sapi_Set_api_Set_attrset_keep_1_1.enter l a (fun r => r = l.any fun b => !(a == b) && subB a b) ⟨_, g2, ixI_any⟩
  rw [← h1]; exact h2
def goneMaximal (l : List Int) (a : Int) : Bool := l.any fun b => !(a == b) && subB a b
theorem attrset_keep_1.spec {l : List Int} {a : Int} (ha : U32 a) (hu : AllU l) (hl : l.length < 9223372036854775807) : attrset_keep_1.C a l (goneMaximal l a) := by
  obtain ⟨r, h1, h2⟩ := attrset_keep_1.enter a l (fun r => r = goneMaximal l a) ⟨_, slices_ContainsFunc_sapi_Set_api_Set_attrset_keep_1_1.spec ha hu hl, rfl⟩
  rw [← h1]; exact h2
namespace slices_DeleteFunc_sapi_Set_api_Set_attrset_keep_1
theorem loop {x0 l0 : List Int} {φ : List Int × Bool → Prop} (hu0 : AllU x0) (hu : AllU l0) (hl0 : l0.length < 4611686018427387904) (hn : x0.length < 4611686018427387904) (hφ : ∀ b, φ (x0.filter (fun a => !goneMaximal l0 a), b)) (r : List Int) : ∀ (k j : Nat) (l : List Int), x0.drop k = r → l.length = x0.length → l.drop k = x0.drop k → l.take j = (x0.take k).filter (fun a => !goneMaximal l0 a) → j ≤ k → k ≤ x0.length → L1 l l0 j k φ := by
  induction r with
  | nil =>
    intro k j l hd hl h1 h2 h3 h4
    apply L1_step
    have hk := drop_ge hd
    rw [if_neg (by omega)]
    refine ⟨by omega, ⟨by omega, by omega⟩, by omega, by omega, by omega, by omega, ⟨by omega, by omega, by omega⟩, ?_⟩
    rw [Int.toNat_natCast, h2, List.take_of_length_le hk]
    exact hφ _
  | cons c r ih =>
    intro k j l hd hl h1 h2 h3 h4
    apply L1_step
    have hk := drop_lt hd
    rw [if_pos (by omega)]
    have hlk : l.drop k = c :: r := by rw [h1, hd]
    have hc : U32 c := hu0 c (List.mem_of_getElem? (drop_get hd))
    refine ⟨c, lget_drop hlk, _, attrset_keep_1.spec hc hu (by omega), ?_⟩
    have htk : x0.take (k + 1) = x0.take k ++ [c] := by rw [List.take_add_one, drop_get hd]; rfl
    by_cases hg : goneMaximal l0 c = true
    · rw [if_pos hg]
      apply L2_step
      rw [wrap_succ (by omega)]
      refine ih (k + 1) j l (drop_next hd) hl ?_ ?_ (by omega) (by omega)
      · rw [drop_next hlk, drop_next hd]
      · rw [htk, List.filter_append, h2]; simp [hg]
    · rw [if_neg hg]
      obtain ⟨a, ha⟩ := lget_lt (l := l) (i := (j : Int)) (by omega) (by omega)
      refine ⟨a, ha, ?_⟩
      apply L2_step
      rw [wrap_succ (by omega), wrap_succ (by omega)]
      have hs : lset l (j : Int) c = l.set j c := by simp [lset]
      rw [hs]
      refine ih (k + 1) (j + 1) (l.set j c) (drop_next hd) (by simp [hl]) ?_ ?_ (by omega) (by omega)
      · rw [List.drop_set_of_lt (by omega), drop_next hlk, drop_next hd]
      · rw [htk, List.filter_append, ← h2, List.take_add_one]
        have e1 : (l.set j c)[j]? = some c := by rw [List.getElem?_set_self (by omega)]
        rw [e1, List.take_set_of_le (by omega)]
        simp [hg]
theorem spec {x0 l0 : List Int} (hu0 : AllU x0) (hu : AllU l0) (hl0 : l0.length < 4611686018427387904) (hn : x0.length < 4611686018427387904) : ∃ b, C x0 l0 (x0.filter (fun a => !goneMaximal l0 a), b) := by
  obtain ⟨q, g1, g2⟩ := slices_IndexFunc_sapi_Set_api_Set_attrset_keep_1.enter x0 l0 (fun r => r = ixI (goneMaximal l0) x0) (by
    refine index_loop (l := x0) (p := goneMaximal l0) (L := fun i => slices_IndexFunc_sapi_Set_api_Set_attrset_keep_1.L1 x0 l0 i _) (φ := fun r => r = ixI (goneMaximal l0) x0) ?_ ?_ rfl
    · intro h; apply slices_IndexFunc_sapi_Set_api_Set_attrset_keep_1.L1_step; rw [if_neg (by omega)]; exact h
    · intro k b hb hk h
      apply slices_IndexFunc_sapi_Set_api_Set_attrset_keep_1.L1_step
      rw [if_pos (by omega)]
      refine ⟨b, lget_of hb, _, attrset_keep_1.spec (hu0 b (List.mem_of_getElem? hb)) hu (by omega), ?_⟩
      rw [wrap_succ (by omega)]; exact h)
  subst g1
  obtain ⟨r, h1, h2⟩ := enter x0 l0 (fun r => r.1 = x0.filter (fun a => !goneMaximal l0 a)) (by
    refine ⟨_, g2, ?_⟩
    rcases ixI_spec (l := x0) (p := goneMaximal l0) with ⟨h1, h2⟩ | ⟨n, c, h1, h4, h5, h3⟩
    · rw [if_pos h1]
      exact (List.filter_eq_self.2 fun a ha => by simp [h2 a ha]).symm
    · have hnl : n < x0.length := (List.getElem?_eq_some_iff.1 h4).1
      rw [if_neg (by omega), h1, wrap_succ (by omega)]
      refine loop (φ := fun r => r.1 = x0.filter (fun a => !goneMaximal l0 a)) hu0 hu hl0 hn (fun b => rfl) _ (n + 1) n x0 rfl rfl rfl ?_ (by omega) (by omega)
      have htk : x0.take (n + 1) = x0.take n ++ [c] := by rw [List.take_add_one, h4]; rfl
      rw [htk, List.filter_append, List.filter_eq_self.2 fun a ha => by simp [h3 a ha]]
      simp [h5])
  obtain ⟨l, b⟩ := r
  simp only at h1
  subst h1
  exact ⟨b, h2⟩
end slices_DeleteFunc_sapi_Set_api_Set_attrset_keep_1
def fMaximal (l : List Int) : List Int := (ordL l).filter fun a => !goneMaximal (ordL l) a
theorem attrset_Maximal.spec {l : List Int} (hl : l.length ≤ 1000000) (hu : AllU l) : attrset_Maximal.C l (fMaximal l) := by
  have hlen := ordL_len (l := l)
  have ho := ordL_all hu
  obtain ⟨b, hb⟩ := slices_DeleteFunc_sapi_Set_api_Set_attrset_keep_1.spec ho ho (by omega) (by omega)
  obtain ⟨q, g1, g2⟩ := attrset_keep_attrset_Maximal_1.enter l (fun r => r = fMaximal l) ⟨_, attrset_Order.spec (by omega) hu, by omega, _, hb, rfl⟩
  subst g1
  obtain ⟨r, h1, h2⟩ := attrset_Maximal.enter l (fun r => r = fMaximal l) ⟨_, g2, rfl⟩
  rw [← h1]; exact h2
theorem drossref02_Maximal.inner {all out : List Int} {i : Nat} {a : Int} {φ : List Int → Prop} (hu : AllU all) (hl : all.length ≤ 1000000) (hlo : out.length ≤ 1000000) (ha : all[i]? = some a) (hnd : all.Nodup) (h : drossref02_Maximal.L1 (if goneMaximal all a = true then out else out ++ [a]) all ((i + 1 : Nat) : Int) φ) : drossref02_Maximal.L2 out all i true 0 φ := by
  have hua := hu a (List.mem_of_getElem? ha)
  have hi : i < all.length := (List.getElem?_eq_some_iff.1 ha).1
  have : ∀ (n k : Nat), all.length - k ≤ n → k ≤ all.length → drossref02_Maximal.L2 out all i (!(all.take k).any fun b => !(a == b) && subB a b) k φ := by
    have fin : ∀ k, k = all.length → drossref02_Maximal.L2 out all i (!(all.take k).any fun b => !(a == b) && subB a b) k φ := fun k hk => by
      apply drossref02_Maximal.L2_step
      subst hk
      rw [if_neg (by omega), List.take_length]
      have e : (all.any fun b => !(a == b) && subB a b) = goneMaximal all a := rfl
      rw [e]
      cases hg : goneMaximal all a with
      | true =>
        rw [hg] at h
        rw [if_neg (by decide)]
        apply drossref02_Maximal.L4_step
        rw [wrap_succ (by omega)]; exact h
      | false =>
        rw [hg] at h
        rw [if_pos (by decide)]
        refine ⟨a, lget_of ha, by omega, ?_⟩
        apply drossref02_Maximal.L4_step
        rw [wrap_succ (by omega)]; exact h
    intro n
    induction n with
    | zero => intro k hn hk; exact fin k (by omega)
    | succ n ih =>
      intro k hn hk
      by_cases hlt : k < all.length
      · have hb : all[k]? = some all[k] := List.getElem?_eq_getElem hlt
        have hub := hu all[k] (List.mem_of_getElem? hb)
        have := ih (k + 1) (by omega) (by omega)
        have htk : all.take (k + 1) = all.take k ++ [all[k]] := by rw [List.take_add_one, hb]; rfl
        rw [htk, List.any_append] at this
        apply drossref02_Maximal.L2_step
        rw [if_pos (by omega)]
        cases hq : (all.take k).any fun b => !(a == b) && subB a b with
        | true =>
          rw [hq, Bool.true_or] at this
          rw [if_neg (by decide)]
          apply drossref02_Maximal.L3_step
          rw [wrap_succ (by omega)]; exact this
        | false =>
          rw [hq, Bool.false_or] at this
          rw [if_pos (by decide)]
          by_cases hki : k = i
          · rw [if_pos (by omega)]
            have hka : all[k] = a := by subst hki; rw [hb] at ha; exact Option.some.inj ha
            apply drossref02_Maximal.L3_step
            rw [wrap_succ (by omega)]
            rw [List.any_cons, List.any_nil, hka, beq_self_eq_true, Bool.not_true, Bool.false_and, Bool.or_false, Bool.not_false] at this
            exact this
          · rw [if_neg (by omega)]
            have hne : ¬ a = all[k] := fun he => hki (by
              have h1 : all[i] = a := by rw [List.getElem?_eq_getElem hi] at ha; exact Option.some.inj ha
              exact ((List.getElem_inj hnd).1 (by rw [h1, ← he])))
            refine ⟨a, lget_of ha, _, lget_of hb, _, subB.spec hua hub, ?_⟩
            apply drossref02_Maximal.L3_step
            rw [wrap_succ (by omega)]
            have hq2 : (a == all[k]) = false := beq_eq_false_iff_ne.2 hne
            rw [List.any_cons, List.any_nil, hq2, Bool.not_false, Bool.true_and, Bool.or_false] at this
            exact this
      · exact fin k (by omega)
  exact this all.length 0 (by omega) (by omega)
theorem drossref02_Maximal.spec {l : List Int} (hl : l.length ≤ 1000000) (hu : AllU l) : drossref02_Maximal.C l (fMaximal l) := by
  have hlen := ordL_len (l := l)
  have ho := ordL_all hu
  have hnd : (ordL l).Nodup := (ordL_asc hu).imp fun {a b} h => fun e => by subst e; omega
  obtain ⟨r, h1, h2⟩ := drossref02_Maximal.enter l (fun r => r = fMaximal l) (by
    refine ⟨_, drossref02_Order.spec (by omega) hu, ?_⟩
    unfold fMaximal
    generalize ordL l = all at *
    have : ∀ (n k : Nat), all.length - k ≤ n → k ≤ all.length → drossref02_Maximal.L1 ((all.take k).filter fun a => !goneMaximal all a) all k (fun r => r = all.filter fun a => !goneMaximal all a) := by
      have fin : ∀ k, k = all.length → drossref02_Maximal.L1 ((all.take k).filter fun a => !goneMaximal all a) all k (fun r => r = all.filter fun a => !goneMaximal all a) := fun k hk => by
        apply drossref02_Maximal.L1_step
        rw [if_neg (by omega)]
        subst hk
        rw [List.take_length]
      intro n
      induction n with
      | zero => intro k hn hk; exact fin k (by omega)
      | succ n ih =>
        intro k hn hk
        by_cases hlt : k < all.length
        · have hb : all[k]? = some all[k] := List.getElem?_eq_getElem hlt
          have := ih (k + 1) (by omega) (by omega)
          have htk : all.take (k + 1) = all.take k ++ [all[k]] := by rw [List.take_add_one, hb]; rfl
          rw [htk, List.filter_append] at this
          apply drossref02_Maximal.L1_step
          rw [if_pos (by omega)]
          refine drossref02_Maximal.inner ho (by omega) (Nat.le_trans (List.length_filter_le _ _) (by rw [List.length_take]; omega)) hb hnd ?_
          cases hg : goneMaximal all all[k] with
          | true => simpa [hg] using this
          | false => simpa [hg] using this
        · exact fin k (by omega)
    exact this all.length 0 (by omega) (by omega))
  rw [← h1]; exact h2
end Go.Own

namespace Go.Own
def candB (l : List api_FD) (a : Nat) (y : Int) : Bool := !(cloN l (sN y)).testBit a
def candL (n : Nat) (l : List api_FD) (a c : Nat) : List Int := ((List.range c).map fun (m : Nat) => (m : Int)).filter (candB l a)
theorem candL_len {n : Nat} {l : List api_FD} {a c : Nat} : (candL n l a c).length ≤ c := by
  unfold candL
  refine Nat.le_trans (List.length_filter_le _ _) ?_
  rw [List.length_map, List.length_range]; exact Nat.le_refl _
theorem candL_all {n : Nat} {l : List api_FD} {a c : Nat} (hc : c ≤ 65536) : AllU (candL n l a c) := fun y hy => by
  obtain ⟨m, hm, rfl⟩ := List.mem_map.1 (List.mem_filter.1 hy).1
  have := List.mem_range.1 hm
  exact U32.of (by omega)
theorem candL_succ {n : Nat} {l : List api_FD} {a c : Nat} : candL n l a (c + 1) = candL n l a c ++ (if (cloN l c).testBit a = true then [] else [(c : Int)]) := by
  unfold candL
  rw [rng_succ n]
  congr 1
  unfold candB
  rw [sN_nat]
  cases (cloN l c).testBit a <;> rfl
def maxF (n : Int) (l : List api_FD) (a : Int) : List Int × Int := if errA n l = 0 then (if a < 0 ∨ n ≤ a then ([], 6) else (fMaximal (candL n.toNat l a.toNat (2 ^ n.toNat)), 0)) else ([], errA n l)
theorem u32_succ {c : Nat} (h : c < 65537) : IntKind.wrap .u32 ((c : Int) + 1) = ((c + 1 : Nat) : Int) := by
  rw [show (c : Int) + 1 = ((c + 1 : Nat) : Int) by omega]
  exact wrap_top (k := .u32) (by simp only [top]; omega)
theorem armstrong_MaxSets.spec {n : Int} {l : List api_FD} {a : Int} (hl : FdOK l) (hn : l.length < 1000000000) : armstrong_MaxSets.C n l a (maxF n l a) := by
  obtain ⟨r, h1, h2⟩ := armstrong_MaxSets.enter n l a (fun r => r = maxF n l a) (by
    refine ⟨_, armstrong_check.spec hl, ?_⟩
    unfold maxF
    split
    · rename_i h0
      obtain ⟨g1, g2, g3⟩ := errA_n h0
      by_cases c1 : a < 0
      · rw [if_pos c1, if_pos (.inl c1)]
      rw [if_neg c1]
      by_cases c2 : n ≤ a
      · rw [if_pos c2, if_pos (.inr c2)]
      rw [if_neg c2, if_neg (by omega)]
      obtain ⟨m, rfl⟩ : ∃ m : Nat, n = m := ⟨n.toNat, by omega⟩
      obtain ⟨b, rfl⟩ : ∃ b : Nat, a = b := ⟨a.toNat, by omega⟩
      rw [Int.toNat_natCast, Int.toNat_natCast]
      have hp := pow16 (n := m) (by omega)
      refine ⟨_, armstrong_full.spec (by omega), ?_⟩
      rw [u32_succ (by omega), show 2 ^ m - 1 + 1 = 2 ^ m by omega]
      have : ∀ (d c : Nat), 2 ^ m - c ≤ d → c ≤ 2 ^ m → armstrong_MaxSets.L1 l b (candL m l b c) ((2 ^ m : Nat) : Int) c (fun r => r = (fMaximal (candL m l b (2 ^ m)), 0)) := by
        intro d
        induction d with
        | zero =>
          intro c h1 h2
          have : c = 2 ^ m := by omega
          subst this
          apply armstrong_MaxSets.L1_step
          rw [if_neg (by omega)]
          exact ⟨_, attrset_Maximal.spec (Nat.le_trans candL_len (by omega)) (candL_all (by omega)), rfl⟩
        | succ d ih =>
          intro c h1 h2
          apply armstrong_MaxSets.L1_step
          by_cases hlt : c < 2 ^ m
          · rw [if_pos (by omega)]
            have hs : c < 2 ^ 32 := by omega
            refine ⟨_, closure_Close.spec hl hn hs, by omega, ?_⟩
            have hcl : cloN l c < 2 ^ 32 := cloN_lt (fun d hd => (hl d hd).2.lt) hs
            have next := ih (c + 1) (by omega) (by omega)
            rw [candL_succ] at next
            by_cases hb : (cloN l c).testBit b = true
            · rw [if_pos hb, List.append_nil] at next
              rw [if_neg (fun h => by rw [bit_eq0 (k := .u32) (by simpa [top] using hcl) (by decide)] at h; rw [hb] at h; cases h)]
              apply armstrong_MaxSets.L2_step
              rw [u32_succ (by omega)]; exact next
            · rw [if_neg hb] at next
              rw [if_pos ((bit_eq0 (k := .u32) (by simpa [top] using hcl) (by decide)).2 (by simpa using hb))]
              refine ⟨by have := candL_len (n := m) (l := l) (a := b) (c := c); omega, ?_⟩
              apply armstrong_MaxSets.L2_step
              rw [u32_succ (by omega)]; exact next
          · have : c = 2 ^ m := by omega
            subst this
            rw [if_neg (by omega)]
            exact ⟨_, attrset_Maximal.spec (Nat.le_trans candL_len (by omega)) (candL_all (by omega)), rfl⟩
      exact this (2 ^ m) 0 (Nat.sub_le _ _) (Nat.zero_le _)
    · rfl)
  rw [← h1]; exact h2
end Go.Own

namespace Go.Own
theorem meet_closed {n : Nat} {l : List api_FD} (hn : n ≤ 10) {s : Int} (hs : s ∈ closedL n l) : meetG s ((2 ^ n - 1 : Nat) : Int) (irrL n (closedL n l)) = s := by
  have hp := pow16 (n := n) (by omega)
  obtain ⟨m, rfl, hm⟩ := (closedL_mem (by omega)).1 hs
  have hu : AllU (irrL n (closedL n l)) := fun y hy => closedL_all hn y (List.mem_filter.1 hy).1
  have hm2 := hm.1
  obtain ⟨a, b⟩ := meetG_spec (s := (m : Int)) (m := ((2 ^ n - 1 : Nat) : Int)) hu (U32.of (by omega))
  refine a.ext (U32.of (by omega)) (Nat.eq_of_testBit_eq fun i => Bool.eq_iff_iff.2 ?_)
  rw [b, sN_nat, sN_nat, pow_bit, decide_eq_true_iff]
  constructor
  · rintro ⟨h1, h2⟩
    cases hi : m.testBit i with
    | true => rfl
    | false =>
      obtain ⟨x, x1, x2, x3⟩ := irr_ex h1 hm hi
      have := h2 (x : Int) ((irr_mem hn).2 ⟨x, rfl, x1⟩) (by rw [sN_nat]; exact x2)
      rw [sN_nat, x3] at this; cases this
  · intro hi
    refine ⟨lt_iff.1 hm.1 i hi, fun c hc hsub => hsub i hi⟩
theorem fMaximal_mem {l : List Int} (hu : AllU l) {y : Int} : y ∈ fMaximal l ↔ y ∈ l ∧ ∀ b ∈ l, subN (sN y) (sN b) → b = y := by
  unfold fMaximal
  rw [List.mem_filter, ordL_mem hu]
  refine and_congr_right fun _ => ?_
  unfold goneMaximal
  rw [Bool.not_eq_true', List.any_eq_false]
  constructor
  · intro h b hb hs
    have := h b ((ordL_mem hu b).2 hb)
    unfold subB at this
    rw [decide_eq_true (sub_iff.2 hs), Bool.and_true, Bool.not_eq_true', Bool.not_eq_false] at this
    exact (beq_iff_eq.1 this).symm
  · intro h b hb
    rw [ordL_mem hu] at hb
    by_cases he : y = b
    · rw [he]; simp
    · unfold subB
      by_cases hs : sN y &&& sN b = sN y
      · exact absurd (h b hb (sub_iff.1 hs)).symm he
      · rw [decide_eq_false hs]; simp
theorem candL_mem {n : Nat} {l : List api_FD} {a : Nat} {y : Int} : y ∈ candL n l a (2 ^ n) ↔ ∃ m : Nat, y = m ∧ m < 2 ^ n ∧ (cloN l m).testBit a = false := by
  unfold candL
  rw [List.mem_filter, List.mem_map]
  unfold candB
  constructor
  · rintro ⟨⟨m, hm, rfl⟩, h⟩
    rw [sN_nat] at h
    exact ⟨m, rfl, List.mem_range.1 hm, by simpa using h⟩
  · rintro ⟨m, rfl, hm, h⟩
    exact ⟨⟨m, List.mem_range.2 hm, rfl⟩, by rw [sN_nat, h]; rfl⟩
theorem max_mem {n : Nat} {l : List api_FD} (hn : n ≤ 16) {a : Nat} {y : Int} : y ∈ fMaximal (candL n l a (2 ^ n)) ↔ ∃ m : Nat, y = m ∧ MaxP n l a m := by
  have hp := pow16 hn
  rw [fMaximal_mem (candL_all (by omega)), candL_mem]
  constructor
  · rintro ⟨⟨m, rfl, h1, h2⟩, h3⟩
    refine ⟨m, rfl, h1, h2, fun s hs hsub hsa => ?_⟩
    have := h3 (s : Int) (candL_mem.2 ⟨s, rfl, hs, hsa⟩) (by rw [sN_nat, sN_nat]; exact hsub)
    omega
  · rintro ⟨m, rfl, h1, h2, h3⟩
    refine ⟨⟨m, rfl, h1, h2⟩, fun b hb hsub => ?_⟩
    obtain ⟨k, rfl, k1, k2⟩ := candL_mem.1 hb
    rw [sN_nat, sN_nat] at hsub
    have := h3 k k1 hsub k2
    omega
def allF (n : Nat) (l : List api_FD) (c : Nat) : List Int := (List.range c).flatMap fun a => fMaximal (candL n l a (2 ^ n))
theorem allF_succ {n : Nat} {l : List api_FD} {c : Nat} : allF n l (c + 1) = allF n l c ++ fMaximal (candL n l c (2 ^ n)) := by
  unfold allF
  rw [List.range_succ, List.flatMap_append]; simp
theorem maxL_len {n : Nat} {l : List api_FD} (hn : n ≤ 10) {c : Nat} : (fMaximal (candL n l c (2 ^ n))).length ≤ 1024 := by
  unfold fMaximal
  refine Nat.le_trans (List.length_filter_le _ _) (Nat.le_trans ordL_len (Nat.le_trans candL_len ?_))
  exact Nat.pow_le_pow_right (n := 2) (by omega) hn
theorem allF_len {n : Nat} {l : List api_FD} (hn : n ≤ 10) : ∀ {c : Nat}, (allF n l c).length ≤ 1024 * c
  | 0 => by simp [allF]
  | c + 1 => by
    have := allF_len (l := l) hn (c := c)
    have := maxL_len (l := l) hn (c := c)
    rw [allF_succ, List.length_append]; omega
theorem allF_mem {n : Nat} {l : List api_FD} {c : Nat} {y : Int} : y ∈ allF n l c ↔ ∃ a, a < c ∧ y ∈ fMaximal (candL n l a (2 ^ n)) := by
  unfold allF
  simp only [List.mem_flatMap, List.mem_range]
theorem maxL_all {n : Nat} {l : List api_FD} (hn : n ≤ 16) {c : Nat} : AllU (fMaximal (candL n l c (2 ^ n))) := fun y hy => by
  have hp := pow16 hn
  exact candL_all (by omega) y (((fMaximal_mem (candL_all (by omega))).1 hy).1)
theorem allF_all {n : Nat} {l : List api_FD} (hn : n ≤ 16) {c : Nat} : AllU (allF n l c) := fun y hy => by
  obtain ⟨a, _, h⟩ := allF_mem.1 hy
  exact maxL_all hn y h
theorem all_irr {n : Nat} {l : List api_FD} (hn : n ≤ 10) (hf : FdIn n l) : ordL (allF n l n) = irrL n (closedL n l) := by
  symm
  refine ordL_eq (allF_all (by omega)) ?_ fun y => ?_
  · unfold irrL closedL
    exact ((subs_asc (by omega)).filter _).filter _
  · rw [irr_mem hn, allF_mem]
    constructor
    · rintro ⟨m, rfl, hm⟩
      obtain ⟨a, ha, hmax⟩ := (irr_max hf (by omega)).1 hm
      exact ⟨a, ha, (max_mem (by omega)).2 ⟨m, rfl, hmax⟩⟩
    · rintro ⟨a, ha, hy⟩
      obtain ⟨m, rfl, hmax⟩ := (max_mem (by omega)).1 hy
      exact ⟨m, rfl, (irr_max hf (by omega)).2 ⟨a, ha, hmax⟩⟩
end Go.Own
