/- What the functions that the law reaches answer. No conditions. -/
import Derived.Test.YtjiphhbagdangaaGreatDoorArmstrongExtraLaw4
import Derived.Test.YtjiphhbagdangaaGreatDoorArmstrongExtraLaw10
import Derived.Test.YtjiphhbagdangaaGreatDoorArmstrongExtraLaw11
import Derived.Test.YtjiphhbagdangaaGreatDoorArmstrongExtraLaw6
import Derived.Test.YtjiphhbagdangaaGreatDoorArmstrongExtraLaw1
import Derived.Test.YtjiphhbagdangaaGreatDoorArmstrongExtraLaw3
import Derived.Test.YtjiphhbagdangaaGreatDoorArmstrongExtraLaw7
set_option linter.all false
namespace Go.Own
def ltS (x y : Int) : Bool := decide (keyS x < keyS y)
theorem ltS_swo : Go.Sort.SWO ltS where
 irrefl := fun x => by unfold ltS; simp
 trans := fun x y z h1 h2 => by unfold ltS at *; simp only [decide_eq_true_eq] at *; omega
 ntrans := fun x y z h1 h2 => by unfold ltS at *; simp only [decide_eq_false_iff_not] at *; omega
theorem cmp_Compare_int.spec {x y : Int} : cmp_Compare_int.C x y (cmpI x y) := by
 obtain ⟨f1, g1, k1⟩ := cmp_isNaN_int.enter x (fun r => r = false) (by simp)
 obtain ⟨f2, g2, k2⟩ := cmp_isNaN_int.enter y (fun r => r = false) (by simp)
 subst g1 g2
 obtain ⟨r, h1, h2⟩ := cmp_Compare_int.enter x y (fun r => r = cmpI x y) (by
  refine ⟨_, k1, _, k2, ?_⟩
  rw [if_neg (by decide), if_neg (by decide)]
  unfold cmpI
  split
  ·rfl
  ·split <;> rfl)
 rw [← h1]; exact h2
theorem cmp_Compare_api_Set.spec {x y : Int} : cmp_Compare_api_Set.C x y (cmpI x y) := by
 obtain ⟨f1, g1, k1⟩ := cmp_isNaN_api_Set.enter x (fun r => r = false) (by simp)
 obtain ⟨f2, g2, k2⟩ := cmp_isNaN_api_Set.enter y (fun r => r = false) (by simp)
 subst g1 g2
 obtain ⟨r, h1, h2⟩ := cmp_Compare_api_Set.enter x y (fun r => r = cmpI x y) (by
  refine ⟨_, k1, _, k2, ?_⟩
  rw [if_neg (by decide), if_neg (by decide)]
  unfold cmpI
  split
  ·rfl
  ·split <;> rfl)
 rw [← h1]; exact h2
theorem cmp_Or_int.two {a b : Int} : cmp_Or_int.C [a, b] (if a = 0 then b else a) := by
 obtain ⟨r, h1, h2⟩ := cmp_Or_int.enter [a, b] (fun r => r = if a = 0 then b else a) (by
  apply cmp_Or_int.L1_step
  rw [if_pos (by simp)]
  refine ⟨a, rfl, ?_⟩
  by_cases ha : a = 0
  ·rw [if_pos ha]
   apply cmp_Or_int.L1_step
   have e : IntKind.wrap .i64 ((0 : Int) + 1) = 1 := by decide
   rw [e, if_pos (by simp)]
   refine ⟨b, rfl, ?_⟩
   by_cases hb : b = 0
   ·rw [if_pos hb]
    apply cmp_Or_int.L1_step
    have e : IntKind.wrap .i64 ((1 : Int) + 1) = 2 := by decide
    rw [e, if_neg (by simp), if_pos ha, hb]
   ·rw [if_neg hb, if_pos ha]
  ·rw [if_neg ha, if_neg ha])
 rw [← h1]; exact h2
theorem cmpS_ok : CmpOK U32 ltS attrset_compare.C := fun x y hx hy => by
 obtain ⟨r, h1, h2⟩ := attrset_compare.enter x y (fun r => r < 0 ↔ ltS x y = true) (by
  refine ⟨_, attrset_Size.spec hx, _, attrset_Size.spec hy, _, cmp_Compare_int.spec, _, cmp_Compare_api_Set.spec, _, cmp_Or_int.two, ?_⟩
  unfold ltS
  rw [decide_eq_true_eq, keyS_lt hx hy]
  have ex := hx.eq
  have ey := hy.eq
  unfold cmpI
  generalize szN (sN x) = s at *
  generalize szN (sN y) = t at *
  by_cases h1 : (s : Int) < t
  ·rw [if_pos h1, if_neg (by decide)]; omega
  ·rw [if_neg h1]
   by_cases h2 : (t : Int) < s
   ·rw [if_pos h2, if_neg (by decide)]; omega
   ·rw [if_neg h2, if_pos rfl]
    split
    ·omega
    ·split <;> omega)
 exact ⟨r, h2, h1⟩
end Go.Own
namespace Go.Own
theorem compactL_snoc : ∀ (l : List Int) (a b : Int), compactL (l ++ [a] ++ [b]) = if a = b then compactL (l ++ [a]) else compactL (l ++ [a]) ++ [b]
 | [], a, b => by
  simp only [List.nil_append, List.singleton_append, compactL]
  split <;> simp_all
 | [c], a, b => by
  simp only [List.singleton_append, List.cons_append, List.nil_append, compactL]
  split <;> split <;> simp_all
 | c :: d :: r, a, b => by
  have ih := compactL_snoc (d :: r) a b
  simp only [List.cons_append, compactL] at ih ⊢
  rw [ih]
  split <;> split <;> simp
theorem take_snoc {l : List Int} {m : Nat} {a : Int} (h : l[m]? = some a) : l.take (m + 1) = l.take m ++ [a] := by
 rw [List.take_add_one, h]; rfl
theorem compact_step {l : List Int} {m : Nat} {a b : Int} (ha : l[m]? = some a) (hb : l[m + 1]? = some b) : compactL (l.take (m + 2)) = if a = b then compactL (l.take (m + 1)) else compactL (l.take (m + 1)) ++ [b] := by
 have e1 : l.take (m + 2) = l.take m ++ [a] ++ [b] := by rw [take_snoc (m := m + 1) hb, take_snoc ha]
 rw [e1, take_snoc ha, compactL_snoc]
namespace slices_Compact_sapi_Set_api_Set
theorem inner {l : List Int} {o : Nat} {φ : List Int × Bool → Prop} (ho : 1 ≤ o) (hol : o < l.length) (hl : l.length < 4611686018427387904) (h : ∀ b, φ (compactL l, b)) (n : Nat) : ∀ (s : List Int) (k k2 : Nat), l.length - o - k2 ≤ n → 1 ≤ k2 → o + k2 ≤ l.length → s.length = l.length → k ≤ o + k2 - 1 → s.take k = compactL (l.take (o + k2)) → (∀ i, o + k2 - 1 ≤ i → s[i]? = l[i]?) → L2 s k o (l.length - o) k2 φ := by
 have hend : ∀ (s : List Int) (k k2 : Nat), o + k2 = l.length → s.length = l.length → k ≤ o + k2 - 1 → s.take k = compactL (l.take (o + k2)) → L2 s k o (l.length - o) k2 φ := fun s k k2 hk2 hs hk ht => by
  apply L2_step
  refine ⟨by omega, ?_⟩
  rw [if_neg (by rw [List.length_take, List.length_drop]; omega)]
  refine ⟨by omega, ⟨by omega, by omega⟩, by omega, by omega, by omega, by omega, ⟨by omega, by omega, by omega⟩, ?_⟩
  rw [Int.toNat_natCast]
  have e : s.take k = compactL l := by rw [ht, List.take_of_length_le (by omega)]
  rw [e]
  exact h _
 induction n with
 | zero => intro s k k2 hn h1 hk2 hs hk ht hd; exact hend s k k2 (by omega) hs hk ht
 | succ n ih =>
  intro s k k2 hn h1 hk2 hs hk ht hd
  by_cases hlt : o + k2 < l.length
  ·apply L2_step
   refine ⟨by omega, ?_⟩
   rw [if_pos (by rw [List.length_take, List.length_drop]; omega)]
   obtain ⟨b, hb⟩ : ∃ b, l[o + k2]? = some b := ⟨_, List.getElem?_eq_getElem hlt⟩
   obtain ⟨a, ha⟩ : ∃ a, l[o + k2 - 1]? = some a := ⟨_, List.getElem?_eq_getElem (by omega)⟩
   have e1 : (o : Int) + (k2 : Int) = ((o + k2 : Nat) : Int) := by omega
   have e2 : IntKind.wrap .i64 ((k2 : Int) - 1) = ((k2 - 1 : Nat) : Int) := wx _ _ (by omega) (by omega)
   have e3 : (o : Int) + ((k2 - 1 : Nat) : Int) = ((o + k2 - 1 : Nat) : Int) := by omega
   have e4 : IntKind.wrap .i64 ((k2 : Int) + 1) = ((k2 + 1 : Nat) : Int) := wx _ _ (by omega) (by omega)
   have e5 : IntKind.wrap .i64 ((k : Int) + 1) = ((k + 1 : Nat) : Int) := wx _ _ (by omega) (by omega)
   rw [e1, e2, e3]
   have hstep := compact_step (l := l) (m := o + k2 - 1) ha (by rw [show o + k2 - 1 + 1 = o + k2 by omega]; exact hb)
   rw [show o + k2 - 1 + 2 = o + (k2 + 1) by omega, show o + k2 - 1 + 1 = o + k2 by omega] at hstep
   refine ⟨b, by rw [lget_nat, hd _ (by omega)]; exact hb, ⟨by omega, by omega⟩, by omega, a, by rw [lget_nat, hd _ (by omega)]; exact ha, ⟨by omega, by omega⟩, by omega, ?_⟩
   by_cases hab : b = a
   ·rw [if_pos hab]
    apply L3_step
    rw [e4]
    rw [if_pos hab.symm] at hstep
    exact ih s k (k2 + 1) (by omega) (by omega) (by omega) hs (by omega) (by rw [ht, hstep]) (fun i hi => hd i (by omega))
   ·rw [if_neg hab]
    rw [if_neg (fun h => hab h.symm)] at hstep
    obtain ⟨c, hc⟩ : ∃ c, s[k]? = some c := ⟨_, List.getElem?_eq_getElem (by omega)⟩
    refine ⟨⟨by omega, by omega⟩, by omega, c, by rw [lget_nat]; exact hc, ?_⟩
    apply L3_step
    rw [e4, e5]
    have hls : lset s (k : Int) b = s.set k b := by unfold lset; rw [Int.toNat_natCast]
    rw [hls]
    refine ih (s.set k b) (k + 1) (k2 + 1) (by omega) (by omega) (by omega) (by rw [List.length_set]; exact hs) (by omega) ?_ (fun i hi => ?_)
    ·rw [hstep, ← ht, take_snoc (a := b) (by rw [List.getElem?_set_self (by omega)])]
     congr 1
     rw [List.take_set_of_le (Nat.le_refl k)]
    ·rw [List.getElem?_set_ne (by omega)]
     exact hd i (by omega)
  ·exact hend s k k2 (by omega) hs hk ht
theorem outer {l : List Int} {φ : List Int × Bool → Prop} (hl : l.length < 4611686018427387904) (h : ∀ b, φ (compactL l, b)) (n : Nat) : ∀ i, l.length - i ≤ n → 1 ≤ i → i ≤ l.length → compactL (l.take i) = l.take i → L1 l i φ := by
 induction n with
 | zero =>
  intro i hn h1 hi hc
  apply L1_step
  rw [if_neg (by omega)]
  have e : i = l.length := by omega
  rw [e, List.take_length] at hc
  have := h true
  rwa [hc] at this
 | succ n ih =>
  intro i hn h1 hi hc
  by_cases hlt : i < l.length
  ·apply L1_step
   rw [if_pos (by omega)]
   obtain ⟨b, hb⟩ : ∃ b, l[i]? = some b := ⟨_, List.getElem?_eq_getElem hlt⟩
   obtain ⟨a, ha⟩ : ∃ a, l[i - 1]? = some a := ⟨_, List.getElem?_eq_getElem (by omega)⟩
   have e2 : IntKind.wrap .i64 ((i : Int) - 1) = ((i - 1 : Nat) : Int) := wx _ _ (by omega) (by omega)
   have e4 : IntKind.wrap .i64 ((i : Int) + 1) = ((i + 1 : Nat) : Int) := wx _ _ (by omega) (by omega)
   rw [e2, e4]
   have hstep := compact_step (l := l) (m := i - 1) ha (by rw [show i - 1 + 1 = i by omega]; exact hb)
   rw [show i - 1 + 2 = i + 1 by omega, show i - 1 + 1 = i by omega] at hstep
   refine ⟨b, by rw [lget_nat]; exact hb, a, by rw [lget_nat]; exact ha, ?_⟩
   by_cases hab : b = a
   ·rw [if_pos hab]
    rw [if_pos hab.symm] at hstep
    refine ⟨by omega, ⟨by omega, by omega⟩, ?_⟩
    rw [Int.toNat_natCast]
    exact inner (o := i) h1 hlt hl h (l.length - i - 1) l i 1 (Nat.le_refl _) (Nat.le_refl _) (by omega) rfl (by omega) (by rw [hstep, hc]) (fun _ _ => rfl)
   ·rw [if_neg hab]
    rw [if_neg (fun h => hab h.symm)] at hstep
    exact ih (i + 1) (by omega) (by omega) (by omega) (by rw [hstep, hc, take_snoc hb])
  ·apply L1_step
   rw [if_neg (by omega)]
   have e : i = l.length := by omega
   rw [e, List.take_length] at hc
   have := h true
   rwa [hc] at this
theorem spec {l : List Int} (hl : l.length < 4611686018427387904) : ∃ b, C l (compactL l, b) := by
 obtain ⟨r, ⟨b, rfl⟩, h2⟩ := enter l (fun r => ∃ b, r = (compactL l, b)) (by
  split
  ·rename_i h
   refine ⟨true, ?_⟩
   match l, h with
   | [], _ => rfl
   | [a], _ => rfl
   | _ :: _ :: _, h => simp at h; omega
  ·rename_i h
   have : 1 ≤ l.length := by omega
   exact outer hl (fun b => ⟨b, rfl⟩) (l.length - 1) 1 (by omega) (by omega) this (by
    obtain ⟨a, r, rfl⟩ : ∃ a r, l = a :: r := by cases l with
     | nil => simp at this
     | cons a r => exact ⟨a, r, rfl⟩
    rfl))
 exact ⟨b, h2⟩
end slices_Compact_sapi_Set_api_Set
end Go.Own
namespace Go.Own
theorem attrset_Order.spec {l : List Int} (hl : l.length ≤ 35184372088832) (hu : AllU l) : attrset_Order.C l (ordL l) := by
 obtain ⟨r, h1, h2⟩ := attrset_Order.enter l (fun r => r = ordL l) (by
  obtain ⟨s, c, hp, ha⟩ := slices_SortFunc_sapi_Set_api_Set_attrset_compare.spec cmpS_ok ltS_swo (l := l) (by omega) hu
  have hlen := hp.length_eq
  obtain ⟨b, c2⟩ := slices_Compact_sapi_Set_api_Set.spec (l := s) (by omega)
  refine ⟨by omega, s, c, _, c2, ?_⟩
  have hus : AllU s := fun x hx => hu x (hp.mem_iff.1 hx)
  refine ordL_eq hu (compactL_asc hus (ha.imp fun h => ?_)) fun y => by rw [compactL_mem, hp.mem_iff]
  unfold ltS at h
  simp only [decide_eq_false_iff_not] at h
  omega)
 rw [← h1]; exact h2
theorem drossref02_Size.spec {x : Int} (hx : U32 x) : drossref02_Size.C x (szN (sN x) : Int) := by
 have := drossref02_Members.spec hx.lt
 rw [← hx.eq] at this
 obtain ⟨r, h1, h2⟩ := drossref02_Size.enter x (fun r => r = (szN (sN x) : Int)) ⟨_, this, by rw [List.length_map]; rfl⟩
 rw [← h1]; exact h2
end Go.Own
namespace Go.Own
def subL (s : Nat) : List Int := (bsL 32 s).map fun (n : Nat) => (n : Int)
theorem subL_mem {s : Nat} (hs : s < 2 ^ 32) {y : Int} : y ∈ subL s ↔ ∃ n : Nat, y = n ∧ n &&& s = n := by
 unfold subL
 rw [List.mem_map]
 constructor
 ·rintro ⟨n, hn, rfl⟩; exact ⟨n, rfl, (bsL_mem hs n).1 hn⟩
 ·rintro ⟨n, rfl, hn⟩; exact ⟨n, (bsL_mem hs n).2 hn, rfl⟩
theorem subL_all {s : Nat} (hs : s < 2 ^ 32) : AllU (subL s) := fun y hy => by
 obtain ⟨n, rfl, hn⟩ := (subL_mem hs).1 hy
 have := sub_le hn
 exact U32.of (by omega)
def subsF (s : Nat) : List Int := if 12 < szN s then [] else ordL (subL s)
theorem keyS_lt_big {x : Int} (hx : U32 x) : keyS x < 33 * 4294967296 := by
 have h1 := hx.lt
 have h2 := szN_le (n := sN x)
 unfold keyS; omega
theorem asc_small {l : List Int} (hu : AllU l) (ha : Asc l) : l.length ≤ 33 * 4294967296 := asc_len keyS ha fun x hx => keyS_lt_big (hu x hx)
theorem ordL_nodup_len {l : List Int} (hu : AllU l) (hn : l.Nodup) : (ordL l).length = l.length := by
 have h1 : (ordL l).Nodup := (ordL_asc hu).imp fun {a b} h => fun e => by subst e; omega
 exact ((List.perm_ext_iff_of_nodup h1 hn).2 fun y => ordL_mem hu y).length_eq
theorem subs_count {s : Nat} (hs : s < 2 ^ 32) : (ordL (subL s)).length = 2 ^ szN s := by
 rw [ordL_nodup_len (subL_all hs)]
 ·unfold subL
  rw [List.length_map, bsL_len]; rfl
 ·unfold subL
  have h1 : (bsL 32 s).Nodup := bsL_asc.imp fun {a b} h => by omega
  exact List.Pairwise.map _ (fun a b h => by omega) h1
theorem attrset_Subsets.loop {s : Nat} (hs : s < 2 ^ 32) {φ : List Int → Prop} (h : φ (ordL (subL s))) (n : Nat) : ∀ (x : Nat) (out : List Int), x ≤ n → x &&& s = x → out.length + x ≤ s + 1 → (∀ y, y ∈ out ↔ ∃ m : Nat, y = m ∧ m &&& s = m ∧ x ≤ m) → attrset_Subsets.L1 s out x φ := by
 induction n with
 | zero =>
  intro x out hx hsub hl hm
  have : x = 0 := by omega
  subst this
  apply attrset_Subsets.L1_step
  rw [if_pos (by omega)]
  have hmem : ∀ y, y ∈ out ↔ y ∈ subL s := fun y => by
   rw [hm, subL_mem hs]
   constructor
   ·rintro ⟨m, a, b, _⟩; exact ⟨m, a, b⟩
   ·rintro ⟨m, a, b⟩; exact ⟨m, a, b, Nat.zero_le _⟩
  have hu : AllU out := fun y hy => subL_all hs y ((hmem y).1 hy)
  refine ⟨_, attrset_Order.spec (by omega) hu, ?_⟩
  rw [ordL_congr (subL_all hs) hmem]; exact h
 | succ n ih =>
  intro x out hx hsub hl hm
  by_cases h0 : x = 0
  ·exact ih x out (by omega) hsub hl hm
  ·apply attrset_Subsets.L1_step
   rw [if_neg (by omega)]
   refine ⟨by omega, ?_⟩
   have hxs := sub_le hsub
   have e1 : IntKind.wrap .u32 ((x : Int) - 1) = ((x - 1 : Nat) : Int) := by
    rw [show (x : Int) - 1 = ((x - 1 : Nat) : Int) by omega]
    exact wrap_top (k := .u32) (by simp only [top]; omega)
   rw [e1, bAnd_nat (k := .u32) (by simp only [top]; omega) (by simpa [top] using hs)]
   have hp : (x - 1) &&& s ≤ x - 1 := Nat.and_le_left
   refine ih _ _ (by omega) (by rw [Nat.and_assoc, Nat.and_self]) (by rw [List.length_append, List.length_singleton]; omega) fun y => ?_
   rw [List.mem_append, hm, List.mem_singleton]
   constructor
   ·rintro (⟨m, a, b, c⟩ | rfl)
    ·exact ⟨m, a, b, by omega⟩
    ·exact ⟨_, rfl, by rw [Nat.and_assoc, Nat.and_self], Nat.le_refl _⟩
   ·rintro ⟨m, rfl, b, c⟩
    rcases Nat.lt_or_ge m x with h1 | h1
    ·right
     have := pred_sub x s m hsub (by omega) b h1
     have : m = (x - 1) &&& s := by omega
     rw [this]
    ·exact .inl ⟨m, rfl, b, h1⟩
theorem attrset_Subsets.spec {s : Nat} (hs : s < 2 ^ 32) : attrset_Subsets.C s (subsF s) := by
 obtain ⟨r, h1, h2⟩ := attrset_Subsets.enter s (fun r => r = subsF s) (by
  have hz := attrset_Size.spec (x := (s : Int)) (U32.of hs)
  rw [sN_nat] at hz
  refine ⟨_, hz, ?_⟩
  unfold subsF
  by_cases h12 : 12 < szN s
  ·rw [if_pos (by omega), if_pos h12]
  ·rw [if_neg (by omega), if_neg h12]
   refine attrset_Subsets.loop (φ := fun r => r = ordL (subL s)) hs (Eq.refl _) s s [(s : Int)] (Nat.le_refl s) (Nat.and_self s) (by rw [List.length_singleton]; omega) fun y => ?_
   rw [List.mem_singleton]
   constructor
   ·rintro rfl; exact ⟨s, rfl, Nat.and_self s, Nat.le_refl _⟩
   ·rintro ⟨m, rfl, b, c⟩
    have := sub_le b
    have : m = s := by omega
    rw [this])
 rw [← h1]; exact h2
end Go.Own
namespace Go.Own
theorem szN_full16 : ∀ n : Nat, n ≤ 16 → szN (2 ^ n - 1) = n := by
 intro n hn
 have : ∀ i : Fin 17, szN (2 ^ i.val - 1) = i.val := by decide +kernel
 exact this ⟨n, by omega⟩
theorem sub_pow {m n : Nat} : m &&& (2 ^ n - 1) = m ↔ m < 2 ^ n := by
 rw [Nat.and_two_pow_sub_one_eq_mod]
 constructor
 ·intro h
  rw [← h]; exact Nat.mod_lt _ (Nat.pow_pos (by omega))
 ·exact Nat.mod_eq_of_lt
theorem pow16 {n : Nat} (hn : n ≤ 16) : 2 ^ n ≤ 65536 ∧ 0 < 2 ^ n := ⟨Nat.pow_le_pow_right (n := 2) (by omega) hn, Nat.pow_pos (by omega)⟩
theorem subs_full {n : Nat} (hn : n ≤ 12) : subsF (2 ^ n - 1) = ordL (subL (2 ^ n - 1)) := by
 unfold subsF
 rw [if_neg (by rw [szN_full16 n (by omega)]; omega)]
theorem subs_mem {n : Nat} (hn : n ≤ 12) {y : Int} : y ∈ subsF (2 ^ n - 1) ↔ ∃ m : Nat, y = m ∧ m < 2 ^ n := by
 have hp := pow16 (n := n) (by omega)
 have hs : 2 ^ n - 1 < 2 ^ 32 := by omega
 rw [subs_full hn, ordL_mem (subL_all hs), subL_mem hs]
 constructor
 ·rintro ⟨m, rfl, h⟩; exact ⟨m, rfl, sub_pow.1 h⟩
 ·rintro ⟨m, rfl, h⟩; exact ⟨m, rfl, sub_pow.2 h⟩
theorem subs_len {n : Nat} (hn : n ≤ 12) : (subsF (2 ^ n - 1)).length = 2 ^ n := by
 have hp := pow16 (n := n) (by omega)
 rw [subs_full hn, subs_count (by omega), szN_full16 n (by omega)]
end Go.Own
namespace Go.Own
theorem passN_cons (d : api_FD) (l : List api_FD) (s : Nat) : passN (d :: l) s = passN l (if sN d.Lhs &&& s = sN d.Lhs then s ||| sN d.Rhs else s) := rfl
theorem andNot_zero {a : Int} {s : Nat} (ha : U32 a) (hs : s < 2 ^ 32) : bAndNot .u32 a s = 0 ↔ sN a &&& s = sN a := by
 have e : bAndNot .u32 a s = ((ndiff (sN a) s : Nat) : Int) := by
  conv => lhs; rw [ha.eq]
  exact bAndNot_nat ha.top (by simpa [top] using hs)
 rw [e, sub_iff, ← ndiff_zero]; omega
theorem or_nat {a : Int} {s : Nat} (ha : U32 a) (hs : s < 2 ^ 32) : bOr .u32 s a = ((s ||| sN a : Nat) : Int) := by
 conv => lhs; rw [ha.eq]
 exact bOr_nat (by simpa [top] using hs) ha.top
theorem sub_spec {a : Int} {s : Nat} (ha : U32 a) (hs : s < 2 ^ 32) : drossref02_Sub.C a s (decide (sN a &&& s = sN a)) := by
 have := drossref02_Sub.spec (a := sN a) (b := s) ha.lt hs
 rw [← ha.eq] at this; exact this
namespace closure_Close
theorem pass {l : List api_FD} (hl : FdOK l) (hn : l.length < 1000000000) {b : Int} {φ : Int → Prop} : ∀ (r : List api_FD) (k s : Nat), l.drop k = r → s < 2 ^ 32 → (if ((passN r s : Nat) : Int) = b then φ ((passN r s : Nat) : Int) else L1 l ((passN r s : Nat) : Int) φ) → L2 l s b k φ := by
 intro r
 induction r with
 | nil =>
  intro k s hd hs h
  have := drop_ge hd
  apply L2_step
  rw [if_neg (by omega)]
  exact h
 | cons d r ih =>
  intro k s hd hs h
  have hlt := drop_lt hd
  have hd' := hl d (List.mem_of_getElem? (drop_get hd))
  apply L2_step
  rw [if_pos (by omega)]
  refine ⟨d, lget_drop hd, ?_⟩
  rw [passN_cons] at h
  by_cases hz : sN d.Lhs &&& s = sN d.Lhs
  ·rw [if_pos ((andNot_zero hd'.1 hs).2 hz), or_nat hd'.2 hs]
   rw [if_pos hz] at h
   apply L3_step
   rw [wrap_succ (by omega)]
   exact ih (k + 1) _ (drop_next hd) (Nat.or_lt_two_pow hs hd'.2.lt) h
  ·rw [if_neg (fun hh => hz ((andNot_zero hd'.1 hs).1 hh))]
   rw [if_neg hz] at h
   apply L3_step
   rw [wrap_succ (by omega)]
   exact ih (k + 1) s (drop_next hd) hs h
theorem loop {l : List api_FD} (hl : FdOK l) (hn : l.length < 1000000000) {φ : Int → Prop} : ∀ (k s : Nat), s < 2 ^ 32 → 33 ≤ k + szN s → φ ((passK l k s : Nat) : Int) → L1 l s φ
 | 0, s, hs, hk, h => by have := bitsOf_len (n := s); unfold szN at hk; omega
 | k + 1, s, hs, hk, h => by
  have hr : ∀ d ∈ l, sN d.Rhs < 2 ^ 32 := fun d hd => (hl d hd).2.lt
  apply L1_step
  refine pass hl hn l 0 s rfl hs ?_
  rw [passK] at h
  by_cases hz : passN l s = s
  ·rw [if_pos (by rw [hz]), hz]
   rw [hz, passK_fix hz] at h
   exact h
  ·rw [if_neg (by omega)]
   have := szN_lt (passN_up (l := l)) (Ne.symm hz) (passN_lt hs hr)
   exact loop hl hn k _ (passN_lt hs hr) (by omega) h
theorem spec {l : List api_FD} (hl : FdOK l) (hn : l.length < 1000000000) {s : Nat} (hs : s < 2 ^ 32) : C l s ((cloN l s : Nat) : Int) := by
 obtain ⟨r, h1, h2⟩ := enter l s (fun r => r = ((cloN l s : Nat) : Int)) (loop hl hn 33 s hs (by omega) rfl)
 rw [← h1]; exact h2
end closure_Close
namespace drossref09_Close
theorem pass {l : List api_FD} (hl : FdOK l) (hn : l.length < 1000000000) {b : Int} {φ : Int → Prop} : ∀ (r : List api_FD) (k s : Nat), l.drop k = r → s < 2 ^ 32 → (if ((passN r s : Nat) : Int) = b then φ ((passN r s : Nat) : Int) else L1 l ((passN r s : Nat) : Int) φ) → L2 l s b k φ := by
 intro r
 induction r with
 | nil =>
  intro k s hd hs h
  have := drop_ge hd
  apply L2_step
  rw [if_neg (by omega)]
  exact h
 | cons d r ih =>
  intro k s hd hs h
  have hlt := drop_lt hd
  have hd' := hl d (List.mem_of_getElem? (drop_get hd))
  apply L2_step
  rw [if_pos (by omega)]
  refine ⟨d, lget_drop hd, _, sub_spec hd'.1 hs, ?_⟩
  rw [passN_cons] at h
  by_cases hz : sN d.Lhs &&& s = sN d.Lhs
  ·rw [if_pos (decide_eq_true hz), or_nat hd'.2 hs]
   rw [if_pos hz] at h
   apply L3_step
   rw [wrap_succ (by omega)]
   exact ih (k + 1) _ (drop_next hd) (Nat.or_lt_two_pow hs hd'.2.lt) h
  ·rw [if_neg (by rw [decide_eq_false hz]; decide)]
   rw [if_neg hz] at h
   apply L3_step
   rw [wrap_succ (by omega)]
   exact ih (k + 1) s (drop_next hd) hs h
theorem loop {l : List api_FD} (hl : FdOK l) (hn : l.length < 1000000000) {φ : Int → Prop} : ∀ (k s : Nat), s < 2 ^ 32 → 33 ≤ k + szN s → φ ((passK l k s : Nat) : Int) → L1 l s φ
 | 0, s, hs, hk, h => by have := bitsOf_len (n := s); unfold szN at hk; omega
 | k + 1, s, hs, hk, h => by
  have hr : ∀ d ∈ l, sN d.Rhs < 2 ^ 32 := fun d hd => (hl d hd).2.lt
  apply L1_step
  refine pass hl hn l 0 s rfl hs ?_
  rw [passK] at h
  by_cases hz : passN l s = s
  ·rw [if_pos (by rw [hz]), hz]
   rw [hz, passK_fix hz] at h
   exact h
  ·rw [if_neg (by omega)]
   have := szN_lt (passN_up (l := l)) (Ne.symm hz) (passN_lt hs hr)
   exact loop hl hn k _ (passN_lt hs hr) (by omega) h
theorem spec {l : List api_FD} (hl : FdOK l) (hn : l.length < 1000000000) {s : Nat} (hs : s < 2 ^ 32) : C l s ((cloN l s : Nat) : Int) := by
 obtain ⟨r, h1, h2⟩ := enter l s (fun r => r = ((cloN l s : Nat) : Int)) (loop hl hn 33 s hs (by omega) rfl)
 rw [← h1]; exact h2
end drossref09_Close
theorem pow_full {n : Nat} (hn : n ≤ 16) : IntKind.wrap .u32 (shlw .u32 1 (n : Int) - 1) = ((2 ^ n - 1 : Nat) : Int) := by
 have hp := pow16 hn
 have e : shlw .u32 1 (n : Int) = ((2 ^ n : Nat) : Int) := shl1_nat (k := .u32) (by simp only [top]; omega)
 rw [e, show (((2 ^ n : Nat) : Int) - 1) = ((2 ^ n - 1 : Nat) : Int) by omega]
 exact wrap_top (k := .u32) (by simp only [top]; omega)
theorem full_small {n : Nat} (hn : n ≤ 16) : fullN n = 2 ^ n - 1 := by unfold fullN; rw [Nat.min_eq_left (by omega)]
end Go.Own
namespace Go.Own
def errA (n : Int) (l : List api_FD) : Int := if fdsE n l = 0 then (if 10 < n then 3 else 0) else fdsE n l
theorem armstrong_check.spec {n : Int} {l : List api_FD} (hl : FdOK l) : armstrong_check.C n l (errA n l) := by
 obtain ⟨r, h1, h2⟩ := armstrong_check.enter n l (fun r => r = errA n l) (by
  refine ⟨_, closure_Valid.spec hl, ?_⟩
  unfold errA
  split
  ·split <;> rfl
  ·rfl)
 rw [← h1]; exact h2
theorem drossref19_Error.spec {n : Int} {l : List api_FD} (hl : FdOK l) : drossref19_Error.C n l (errA n l) := by
 obtain ⟨r, h1, h2⟩ := drossref19_Error.enter n l (fun r => r = errA n l) (by
  refine ⟨_, drossref09_Valid.spec hl, ?_⟩
  unfold errA
  split
  ·split <;> rfl
  ·rfl)
 rw [← h1]; exact h2
theorem errA_n {n : Int} {l : List api_FD} (h : errA n l = 0) : 0 ≤ n ∧ n ≤ 10 ∧ fdsE n l = 0 := by
 unfold errA at h
 split at h
 ·rename_i h0
  have := fdsE_n h0
  split at h
  ·cases h
  ·exact ⟨by omega, by omega, h0⟩
 ·rename_i h0; exact absurd h h0
theorem armstrong_full.spec {n : Nat} (hn : n ≤ 16) : armstrong_full.C n ((2 ^ n - 1 : Nat) : Int) := by
 obtain ⟨r, h1, h2⟩ := armstrong_full.enter n (fun r => r = ((2 ^ n - 1 : Nat) : Int)) ⟨by omega, pow_full hn⟩
 rw [← h1]; exact h2
theorem full_spec {n : Nat} (hn : n ≤ 16) : drossref02_Full.C n ((2 ^ n - 1 : Nat) : Int) := by
 rw [← full_small hn]; exact drossref02_Full.spec
theorem and_sub {c s : Int} (hc : U32 c) (hs : U32 s) : bAnd .u32 c s = s ↔ sN s &&& sN c = sN s := by
 have e : bAnd .u32 c s = ((sN c &&& sN s : Nat) : Int) := by
  conv => lhs; rw [hc.eq, hs.eq]
  exact bAnd_nat hc.top hs.top
 have es := hs.eq
 rw [e, Nat.and_comm]
 omega
end Go.Own
namespace Go.Own
def meetT (s m c : Int) : Int := if sN s &&& sN c = sN s then bAnd .u32 m c else m
def meetG (s : Int) (m : Int) : List Int → Int
 | [] => m
 | c :: r => meetG s (meetT s m c) r
theorem meetG_spec {s : Int} : ∀ {cl : List Int} {m : Int}, AllU cl → U32 m → U32 (meetG s m cl) ∧ ∀ i, (sN (meetG s m cl)).testBit i = true ↔ (sN m).testBit i = true ∧ ∀ c ∈ cl, subN (sN s) (sN c) → (sN c).testBit i = true
 | [], m, _, hm => ⟨hm, fun i => by simp [meetG]⟩
 | c :: r, m, hu, hm => by
  have hc := hu c (by simp)
  have hu' : AllU r := fun y hy => hu y (by simp [hy])
  have e : bAnd .u32 m c = ((sN m &&& sN c : Nat) : Int) := by
   conv => lhs; rw [hm.eq, hc.eq]
   exact bAnd_nat hm.top hc.top
  simp only [meetG, meetT]
  by_cases h2 : sN s &&& sN c = sN s
  ·rw [if_pos h2]
   have hU : U32 (bAnd .u32 m c) := by
    rw [e]; exact U32.of (Nat.lt_of_le_of_lt Nat.and_le_left hm.lt)
   obtain ⟨a, b⟩ := meetG_spec (s := s) hu' hU
   refine ⟨a, fun i => ?_⟩
   rw [b, e, sN_nat, Nat.testBit_and]
   simp only [List.forall_mem_cons, Bool.and_eq_true]
   constructor
   ·rintro ⟨⟨q1, q2⟩, q3⟩; exact ⟨q1, fun _ => q2, q3⟩
   ·rintro ⟨q1, q2, q3⟩; exact ⟨⟨q1, q2 (sub_iff.1 h2)⟩, q3⟩
  ·rw [if_neg h2]
   obtain ⟨a, b⟩ := meetG_spec (s := s) hu' hm
   refine ⟨a, fun i => ?_⟩
   rw [b]
   simp only [List.forall_mem_cons]
   constructor
   ·rintro ⟨q1, q3⟩; exact ⟨q1, fun h => absurd (sub_iff.2 h) h2, q3⟩
   ·rintro ⟨q1, _, q3⟩; exact ⟨q1, q3⟩
theorem pow_bit {n i : Nat} : (2 ^ n - 1).testBit i = decide (i < n) := Nat.testBit_two_pow_sub_one n i
def FdIn (n : Nat) (l : List api_FD) : Prop := ∀ d ∈ l, sN d.Lhs < 2 ^ n ∧ sN d.Rhs < 2 ^ n
theorem fdsE_in {n : Int} {l : List api_FD} (h : fdsE n l = 0) : FdIn n.toNat l := by
 unfold fdsE at h
 split at h
 ·cases h
 ·split at h
  ·cases h
  ·split at h
   ·rename_i ha
    intro d hd
    have := List.all_eq_true.1 ha d hd
    unfold inU at this
    simp only [Bool.and_eq_true, decide_eq_true_eq] at this
    exact this
   ·cases h
end Go.Own
namespace Go.Own
theorem bit_pow {a i : Nat} : (2 ^ a).testBit i = decide (a = i) := Nat.testBit_two_pow
def agrN (t : api_Table) (n i k : Nat) : Nat := ofBits (fun a => decide (EqA t i k a)) n
theorem agrN_lt {t : api_Table} {n i k : Nat} : agrN t n i k < 2 ^ n := ofBits_lt n
theorem agrN_bit {t : api_Table} {n i k a : Nat} : (agrN t n i k).testBit a = true ↔ a < n ∧ EqA t i k a := by
 unfold agrN
 rw [ofBits_bit, Bool.and_eq_true, decide_eq_true_iff, decide_eq_true_iff]
end Go.Own
namespace Go.Own
def errT (t : api_Table) (l : List api_FD) : Int := if tableF t = 0 then (if 200 < (t.Rows.length : Int) then 3 else errA (t.Attrs.length : Int) l) else tableF t
theorem armstrong_checkTable.spec {t : api_Table} {l : List api_FD} (hl : FdOK l) : armstrong_checkTable.C t l (errT t l) := by
 obtain ⟨r, h1, h2⟩ := armstrong_checkTable.enter t l (fun r => r = errT t l) (by
  refine ⟨_, table_Valid.spec, ?_⟩
  unfold errT
  split
  ·split
   ·rfl
   ·exact ⟨_, armstrong_check.spec hl, rfl⟩
  ·rfl)
 rw [← h1]; exact h2
theorem drossref19_TableError.spec {t : api_Table} {l : List api_FD} (hl : FdOK l) : drossref19_TableError.C t l (errT t l) := by
 obtain ⟨r, h1, h2⟩ := drossref19_TableError.enter t l (fun r => r = errT t l) (by
  refine ⟨_, drossref03_Valid.spec, ?_⟩
  unfold errT
  split
  ·split
   ·rfl
   ·exact ⟨_, drossref19_Error.spec hl, rfl⟩
  ·rfl)
 rw [← h1]; exact h2
theorem errT_ok {t : api_Table} {l : List api_FD} (h : errT t l = 0) : TV t ∧ t.Rows.length ≤ 200 ∧ t.Attrs.length ≤ 10 ∧ FdIn t.Attrs.length l := by
 unfold errT at h
 split at h
 ·rename_i h0
  split at h
  ·cases h
  ·obtain ⟨g1, g2, g3⟩ := errA_n h
   have := fdsE_in g3
   rw [Int.toNat_natCast] at this
   exact ⟨tableF_iff.1 h0, by omega, by omega, this⟩
 ·rename_i h0; exact absurd h h0
open Classical in
noncomputable def satB (t : api_Table) (l r : Nat) : Bool := decide (SatP t l r)
theorem satB_iff {t : api_Table} {l r : Nat} : satB t l r = true ↔ SatP t l r := by unfold satB; exact @decide_eq_true_iff _ (Classical.propDecidable _)
namespace drossref19_Holds
theorem inner {t : api_Table} {fd : api_FD} {i : Nat} {φ : Bool → Prop} (ht : TV t) (hl : U32 fd.Lhs) (hr : U32 fd.Rhs) (hi : i < t.Rows.length) (hf : ¬ SatP t (sN fd.Lhs) (sN fd.Rhs) → φ false)
  (h : (∀ k, i < k → k < t.Rows.length → OkP t (sN fd.Lhs) (sN fd.Rhs) k i) → L1 t fd ((i + 1 : Nat) : Int) φ) : ∀ (d k : Nat), d + k = t.Rows.length → i < k → (∀ j, i < j → j < k → OkP t (sN fd.Lhs) (sN fd.Rhs) j i) → L2 t fd i k φ
 | 0, k, hd, hik, hj => by
  apply L2_step
  rw [if_neg (by omega), wrap_succ (by have := ht.nr; omega)]
  exact h fun j h1 h2 => hj j h1 (by omega)
 | d + 1, k, hd, hik, hj => by
  have nr := ht.nr
  have na := ht.na
  have hk : k < t.Rows.length := by omega
  apply L2_step
  rw [if_pos (by omega)]
  have mi := List.getElem_mem hi
  have mk := List.getElem_mem hk
  have sv : ∀ v ∈ (t.Rows[i]).Values, v.Str.toList.length < Big := fun v hv => by have := valid_str (ht.val mi v hv); unfold Big; omega
  have la := ht.len mi
  have lb := ht.len mk
  have next : OkP t (sN fd.Lhs) (sN fd.Rhs) k i → L3 t fd i k φ := fun ho => by
   apply L3_step
   rw [wrap_succ (by omega)]
   refine inner ht hl hr hi hf h d (k + 1) (by omega) (by omega) fun j h1 h2 => ?_
   by_cases hjj : j = k
   ·subst hjj; exact ho
   ·exact hj j h1 (by omega)
  have a1 := drossref03_Agree.spec (a := t.Rows[i]) (b := t.Rows[k]) (n := sN fd.Lhs) hl.lt (by omega) (by omega) sv
  have a2 := drossref03_Agree.spec (a := t.Rows[i]) (b := t.Rows[k]) (n := sN fd.Rhs) hr.lt (by omega) (by omega) sv
  rw [← hl.eq] at a1
  rw [← hr.eq] at a2
  refine ⟨t.Rows[i], lget_of (List.getElem?_eq_getElem hi), t.Rows[k], lget_of (List.getElem?_eq_getElem hk), _, a1, ?_⟩
  split
  ·rename_i h1
   refine ⟨_, a2, ?_⟩
   split
   ·rename_i h2
    exact next fun _ => ((agr hi hk).1 h2).symm
   ·rename_i h2
    refine hf fun hs => h2 ?_
    exact (agr hi hk).2 ((hs k i hk hik ((agr hi hk).1 h1).symm).symm)
  ·rename_i h1
   exact next fun hh => absurd ((agr hi hk).2 hh.symm) h1
theorem spec {t : api_Table} {fd : api_FD} (ht : TV t) (hl : U32 fd.Lhs) (hr : U32 fd.Rhs) : C t fd (satB t (sN fd.Lhs) (sN fd.Rhs)) := by
 obtain ⟨b, h1, h2⟩ := enter t fd (fun b => (b = true ↔ SatP t (sN fd.Lhs) (sN fd.Rhs))) (by
  have nr := ht.nr
  have hf : ¬ SatP t (sN fd.Lhs) (sN fd.Rhs) → (false = true ↔ SatP t (sN fd.Lhs) (sN fd.Rhs)) := fun h => by simp [h]
  have : ∀ (d i : Nat), d + i = t.Rows.length → (∀ a, a < i → ∀ k, a < k → k < t.Rows.length → OkP t (sN fd.Lhs) (sN fd.Rhs) k a) → L1 t fd i fun b => (b = true ↔ SatP t (sN fd.Lhs) (sN fd.Rhs)) := by
   intro d
   induction d with
   | zero =>
    intro i hd h
    apply L1_step
    rw [if_neg (by omega)]
    simp only [true_iff]
    exact fun i k hi hk => h k (by omega) i hk hi
   | succ d ih =>
    intro i hd h
    apply L1_step
    rw [if_pos (by omega), wrap_succ (by omega)]
    refine inner ht hl hr (by omega) hf (fun hk => ih (i + 1) (by omega) fun a ha k h1 h2 => ?_) (t.Rows.length - (i + 1)) (i + 1) (by omega) (by omega) (fun j h1 h2 => by omega)
    by_cases hai : a = i
    ·subst hai; exact hk k h1 h2
    ·exact h a (by omega) k h1 h2
  exact this _ 0 rfl (fun a ha => by omega))
 have : b = satB t (sN fd.Lhs) (sN fd.Rhs) := Bool.eq_iff_iff.2 (h1.trans satB_iff.symm)
 rw [← this]; exact h2
end drossref19_Holds
def impB (l : List api_FD) (a b : Int) : Bool := decide (sN b &&& cloN l (sN a) = sN b)
theorem drossref09_Implies.spec {l : List api_FD} (hl : FdOK l) (hn : l.length < 1000000000) {d : api_FD} (ha : U32 d.Lhs) (hb : U32 d.Rhs) : drossref09_Implies.C l d (impB l d.Lhs d.Rhs) := by
 have hc := drossref09_Close.spec hl hn ha.lt
 rw [← ha.eq] at hc
 have hcl : cloN l (sN d.Lhs) < 2 ^ 32 := cloN_lt (fun d hd => (hl d hd).2.lt) ha.lt
 obtain ⟨r, h1, h2⟩ := drossref09_Implies.enter l d (fun r => r = impB l d.Lhs d.Rhs) ⟨_, hc, _, sub_spec hb hcl, rfl⟩
 rw [← h1]; exact h2
theorem impB_iff {l : List api_FD} {a b : Int} : impB l a b = true ↔ subN (sN b) (cloN l (sN a)) := by
 unfold impB; rw [decide_eq_true_iff, sub_iff]; exact Iff.rfl
theorem shl_bit {a : Nat} (ha : a < 32) : shlw .u32 1 (a : Int) = ((2 ^ a : Nat) : Int) := shl1_nat (k := .u32) (by simpa only [top] using ha)
theorem u32_bit {a : Nat} (ha : a < 32) : U32 ((2 ^ a : Nat) : Int) := U32.of (Nat.pow_lt_pow_right (by omega) ha)
theorem impB_bit {l : List api_FD} {s a : Nat} : impB l (s : Int) ((2 ^ a : Nat) : Int) = (cloN l s).testBit a := by
 refine Bool.eq_iff_iff.2 ?_
 rw [impB_iff, sN_nat, sN_nat]
 constructor
 ·intro h; exact h a (by rw [bit_pow]; simp)
 ·intro h b hb
  rw [bit_pow, decide_eq_true_iff] at hb
  subst hb; exact h
open Classical in
noncomputable def detN (t : api_Table) (n x : Nat) : Nat := ofBits (fun a => satB t x (2 ^ a)) n
theorem detN_bit {t : api_Table} {n x a : Nat} : (detN t n x).testBit a = true ↔ a < n ∧ SatP t x (2 ^ a) := by
 unfold detN
 rw [ofBits_bit, Bool.and_eq_true, decide_eq_true_iff, satB_iff]
theorem detN_lt {t : api_Table} {n x : Nat} : detN t n x < 2 ^ n := ofBits_lt n
noncomputable def moreN (t : api_Table) (l : List api_FD) (n x : Nat) : Nat := ndiff (detN t n x) (cloN l x)
theorem moreN_bit {t : api_Table} {l : List api_FD} {n x a : Nat} : (moreN t l n x).testBit a = true ↔ (a < n ∧ SatP t x (2 ^ a)) ∧ (cloN l x).testBit a = false := by
 unfold moreN
 rw [ndiff_bit, Bool.and_eq_true, detN_bit, Bool.not_eq_true']
theorem moreN_lt {t : api_Table} {l : List api_FD} {n x : Nat} : moreN t l n x < 2 ^ n := Nat.lt_of_le_of_lt ndiff_le detN_lt
theorem zero_bits {m : Nat} : m = 0 ↔ ∀ a, m.testBit a = false := by
 constructor
 ·rintro rfl a; exact Nat.zero_testBit a
 ·intro h; exact Nat.eq_of_testBit_eq fun i => by rw [h, Nat.zero_testBit]
noncomputable def extL (t : api_Table) (l : List api_FD) (n : Nat) : List Int → api_FD × Int
 | [] => ({ Lhs := 0, Rhs := 0 }, 4)
 | y :: r => if moreN t l n (sN y) = 0 then extL t l n r else ({ Lhs := y, Rhs := ((2 ^ lowest (moreN t l n (sN y)) 32 0 : Nat) : Int) }, 0)
noncomputable def extraF (t : api_Table) (l : List api_FD) : api_FD × Int := if errT t l = 0 then extL t l t.Attrs.length (subsF (2 ^ t.Attrs.length - 1)) else ({ Lhs := 0, Rhs := 0 }, errT t l)
noncomputable def brkL (t : api_Table) : List api_FD → api_FD × Int
 | [] => ({ Lhs := 0, Rhs := 0 }, 4)
 | d :: r => if satB t (sN d.Lhs) (sN d.Rhs) = true then brkL t r else (d, 0)
noncomputable def brkF (t : api_Table) (l : List api_FD) : api_FD × Int := if errT t l = 0 then brkL t l else ({ Lhs := 0, Rhs := 0 }, errT t l)
end Go.Own
namespace Go.Own
theorem wrap64_id {n : Nat} (h : n < 2 ^ 64) : IntKind.wrap .u64 (n : Int) = n := wrap_top (k := .u64) (by simpa [top] using h)
theorem drossref02_next.spec {x s : Nat} (hs : s < 2 ^ 32) (hx : x ≤ s) : drossref02_next.C x s ((if x = s then s + 1 else nxt x s : Nat) : Int) := by
 obtain ⟨r, h1, h2⟩ := drossref02_next.enter x s (fun r => r = ((if x = s then s + 1 else nxt x s : Nat) : Int)) (by
  by_cases h : x = s
  ·rw [if_pos (by omega), if_pos h]
   rw [show (s : Int) + 1 = ((s + 1 : Nat) : Int) by omega]
   exact wrap64_id (by omega)
  ·rw [if_neg (by omega), if_neg h]
   have e : IntKind.wrap .u64 ((x : Int) - (s : Int)) = ((2 ^ 64 + x - s : Nat) : Int) := by
    rw [show (IntKind.wrap .u64 ((x : Int) - (s : Int))) = ((x : Int) - (s : Int)) % 18446744073709551616 from by simp [IntKind.wrap, IntKind.bits, IntKind.signed]]
    omega
   rw [e, bAnd_nat (k := .u64) (by simp only [top]; omega) (by simp only [top]; omega)]
   rfl)
 rw [← h1]; exact h2
def Gath (s k x : Nat) (out : List Int) : Prop := Asc out ∧ ∀ y, y ∈ out ↔ ∃ m : Nat, y = m ∧ m &&& s = m ∧ (szN m < k ∨ szN m = k ∧ m < x)
theorem Gath.all {s k x : Nat} {out : List Int} (hs : s < 2 ^ 32) (h : Gath s k x out) : AllU out := fun y hy => by
 obtain ⟨m, rfl, hm, _⟩ := (h.2 y).1 hy
 have := sub_le hm
 exact U32.of (by omega)
theorem drossref02_Subsets.inner {s k : Nat} (hs : s < 2 ^ 32) (hk : k ≤ 32) {φ : List Int → Prop} (h : ∀ out, Gath s (k + 1) 0 out → drossref02_Subsets.L1 s out ((k + 1 : Nat) : Int) φ) (n : Nat) : ∀ (x : Nat) (out : List Int), s + 1 - x ≤ n → (x &&& s = x ∨ x = s + 1) → Gath s k x out → drossref02_Subsets.L2 s out k x φ := by
 have fin : ∀ (out : List Int), Gath s k (s + 1) out → drossref02_Subsets.L2 s out k ((s + 1 : Nat) : Int) φ := fun out hg => by
  apply drossref02_Subsets.L2_step
  rw [wrap64_id (by omega), if_neg (by omega)]
  rw [wrap_succ (by omega)]
  refine h out ⟨hg.1, fun y => ?_⟩
  rw [hg.2]
  constructor
  ·rintro ⟨m, a, b, c⟩; exact ⟨m, a, b, by omega⟩
  ·rintro ⟨m, a, b, c⟩; have := sub_le b; exact ⟨m, a, b, by omega⟩
 induction n with
 | zero =>
  intro x out hn hx hg
  rcases hx with hx | hx
  ·have := sub_le hx; omega
  ·subst hx; exact fin out hg
 | succ n ih =>
  intro x out hn hx hg
  rcases hx with hx | hx
  ·have hle := sub_le hx
   have hu := hg.all hs
   have hlen := asc_small hu hg.1
   apply drossref02_Subsets.L2_step
   rw [wrap64_id (by omega), if_pos (by omega)]
   have e1 : IntKind.wrap .u32 (x : Int) = x := wrap_top (k := .u32) (by simp only [top]; omega)
   rw [e1]
   have hz := drossref02_Size.spec (x := (x : Int)) (U32.of (by omega))
   rw [sN_nat] at hz
   refine ⟨_, hz, ?_⟩
   have go : ∀ out', Gath s k (if x = s then s + 1 else nxt x s) out' → drossref02_Subsets.L3 s out' k x φ := fun out' hg' => by
    apply drossref02_Subsets.L3_step
    rw [wrap64_id (by omega)]
    refine ⟨_, drossref02_next.spec hs hle, ?_⟩
    by_cases hxs : x = s
    ·rw [if_pos hxs] at hg' ⊢; exact fin out' hg'
    ·rw [if_neg hxs] at hg' ⊢
     obtain ⟨n1, n2, n3⟩ := nxt_spec hs hx (by omega)
     exact ih _ out' (by omega) (.inl n1) hg'
   have step : ∀ m : Nat, m &&& s = m → (m < (if x = s then s + 1 else nxt x s) ↔ m < x ∨ m = x) := fun m hm => by
    have hms := sub_le hm
    by_cases hxs : x = s
    ·rw [if_pos hxs]; omega
    ·rw [if_neg hxs]
     obtain ⟨n1, n2, n3⟩ := nxt_spec hs hx (by omega)
     constructor
     ·intro h1
      rcases Nat.lt_trichotomy m x with h2 | h2 | h2
      ·exact .inl h2
      ·exact .inr h2
      ·have := n3 m hm h2; omega
     ·rintro (h1 | h1) <;> omega
   by_cases hsz : szN x = k
   ·rw [if_pos (by omega)]
    refine ⟨by omega, go _ ⟨?_, fun y => ?_⟩⟩
    ·refine List.pairwise_append.2 ⟨hg.1, by simp, fun a ha b hb => ?_⟩
     obtain rfl := List.mem_singleton.1 hb
     obtain ⟨m, rfl, hm, hc⟩ := (hg.2 a).1 ha
     have hms := sub_le hm
     rw [keyS_lt (U32.of (by omega)) (U32.of (by omega)), sN_nat, sN_nat]
     omega
    ·rw [List.mem_append, hg.2, List.mem_singleton]
     constructor
     ·rintro (⟨m, a, b, c⟩ | rfl)
      ·refine ⟨m, a, b, ?_⟩
       rcases c with c | ⟨c1, c2⟩
       ·exact .inl c
       ·exact .inr ⟨c1, (step m b).2 (.inl c2)⟩
      ·exact ⟨x, rfl, hx, .inr ⟨hsz, (step x hx).2 (.inr rfl)⟩⟩
     ·rintro ⟨m, rfl, b, c⟩
      rcases c with c | ⟨c1, c2⟩
      ·exact .inl ⟨m, rfl, b, .inl c⟩
      ·rcases (step m b).1 c2 with h1 | h1
       ·exact .inl ⟨m, rfl, b, .inr ⟨c1, h1⟩⟩
       ·right; rw [h1]
   ·rw [if_neg (by omega)]
    refine go _ ⟨hg.1, fun y => ?_⟩
    rw [hg.2]
    constructor
    ·rintro ⟨m, a, b, c⟩
     refine ⟨m, a, b, ?_⟩
     rcases c with c | ⟨c1, c2⟩
     ·exact .inl c
     ·exact .inr ⟨c1, (step m b).2 (.inl c2)⟩
    ·rintro ⟨m, a, b, c⟩
     refine ⟨m, a, b, ?_⟩
     rcases c with c | ⟨c1, c2⟩
     ·exact .inl c
     ·rcases (step m b).1 c2 with h1 | h1
      ·exact .inr ⟨c1, h1⟩
      ·subst h1; exact absurd c1 hsz
  ·subst hx; exact fin out hg
theorem szN_mono {m s : Nat} (hm : m &&& s = m) : szN m ≤ szN s := by
 unfold szN bitsOf
 refine List.Sublist.length_le ?_
 have e : (List.range 32).filter (fun i => m.testBit i) = ((List.range 32).filter fun i => s.testBit i).filter fun i => m.testBit i := by
  rw [List.filter_filter]
  refine List.filter_congr fun i _ => ?_
  have := congrArg (·.testBit i) hm
  simp only [Nat.testBit_and] at this
  cases h1 : m.testBit i <;> cases h2 : s.testBit i <;> simp_all
 rw [e]
 exact List.filter_sublist
theorem drossref02_Subsets.spec {s : Nat} (hs : s < 2 ^ 32) : drossref02_Subsets.C s (subsF s) := by
 obtain ⟨r, h1, h2⟩ := drossref02_Subsets.enter s (fun r => r = subsF s) (by
  have hz := drossref02_Size.spec (x := (s : Int)) (U32.of hs)
  rw [sN_nat] at hz
  refine ⟨_, hz, ?_⟩
  unfold subsF
  by_cases h12 : 12 < szN s
  ·rw [if_pos (by omega), if_pos h12]
  ·rw [if_neg (by omega), if_neg h12]
   have : ∀ (n k : Nat) (out : List Int), szN s + 1 - k ≤ n → k ≤ szN s + 1 → Gath s k 0 out → drossref02_Subsets.L1 s out k (fun r => r = ordL (subL s)) := by
    have fin : ∀ (k : Nat) (out : List Int), k = szN s + 1 → Gath s k 0 out → drossref02_Subsets.L1 s out k (fun r => r = ordL (subL s)) := fun k out hk hg => by
     apply drossref02_Subsets.L1_step
     refine ⟨_, hz, ?_⟩
     rw [if_neg (by omega)]
     refine ordL_eq (subL_all hs) hg.1 fun y => ?_
     rw [hg.2, subL_mem hs]
     constructor
     ·rintro ⟨m, a, b, _⟩; exact ⟨m, a, b⟩
     ·rintro ⟨m, a, b⟩; have := szN_mono b; exact ⟨m, a, b, by omega⟩
    intro n
    induction n with
    | zero => intro k out hn hk hg; exact fin k out (by omega) hg
    | succ n ih =>
     intro k out hn hk hg
     by_cases hlt : k ≤ szN s
     ·apply drossref02_Subsets.L1_step
      refine ⟨_, hz, ?_⟩
      rw [if_pos (by omega)]
      have := szN_le (n := s)
      exact drossref02_Subsets.inner hs (by omega) (fun out' hg' => ih (k + 1) out' (by omega) (by omega) hg') (s + 1) 0 out (by omega) (.inl (by simp)) hg
     ·exact fin k out (by omega) hg
   exact this (szN s + 1) 0 [] (by omega) (by omega) ⟨List.Pairwise.nil, fun y => by simp⟩)
 rw [← h1]; exact h2
end Go.Own
namespace Go.Own
def seenB (l : List Int) (m : List (Int × Bool)) : Prop := ∀ y, mgetD y m false = true ↔ y ∈ l
theorem seen_put {l : List Int} {m : List (Int × Bool)} {x : Int} (h : seenB l m) : seenB (l ++ [x]) (mset x true m) := fun y => by
 unfold mgetD
 rw [mget_mset]
 have hy := h y
 unfold mgetD at hy
 split
 ·rename_i he; subst he; simp
 ·rename_i he
  rw [hy, List.mem_append, List.mem_singleton]
  exact ⟨.inl, fun h => h.resolve_right fun h2 => he h2.symm⟩
theorem valI_eq {a b : api_Value} : (and (a.Kind == b.Kind) (and (a.Num == b.Num) (and (a.Str.toList == b.Str.toList) true))) = true ↔ a = b := by
 cases a; cases b
 simp only [Bool.and_eq_true, beq_iff_eq, and_true, api_Value.mk.injEq, bl_inj]
theorem agrN_succ {t : api_Table} {j i k : Nat} : agrN t (j + 1) i k = if EqA t i k j then agrN t j i k ||| 2 ^ j else agrN t j i k := by
 have hlt := agrN_lt (t := t) (n := j) (i := i) (k := k)
 unfold agrN at hlt ⊢
 rw [ofBits]
 by_cases h : EqA t i k j
 ·have e := Nat.two_pow_add_eq_or_of_lt hlt 1
  rw [Nat.mul_one] at e
  rw [if_pos (decide_eq_true h), if_pos h, Nat.or_comm, ← e, Nat.add_comm]
 ·rw [if_neg (by simpa using h), if_neg h]; rfl
def Ags (t : api_Table) (l : List Int) (P : Nat → Nat → Prop) : Prop := ∀ y, y ∈ l ↔ ∃ i k, P i k ∧ i < t.Rows.length ∧ k < i ∧ y = ((agrN t t.Attrs.length i k : Nat) : Int)
namespace armstrong_agrees
theorem vals {t : api_Table} {out : List Int} {m : List (Int × Bool)} {i k : Nat} {φ : List Int → Prop} (ht : TV t) (hi : i < t.Rows.length) (hk : k < i) {p : List api_Row} (hlen : out.length ≤ 40000) (hs : seenB out m)
  (h : ∀ out' m', seenB out' m' → (∀ y, y ∈ out' ↔ y ∈ out ∨ y = ((agrN t t.Attrs.length i k : Nat) : Int)) → out'.length ≤ out.length + 1 → L2 t out' m' (t.Rows[i]) i p (p.length : Int) ((k + 1 : Nat) : Int) φ) : ∀ (d j : Nat), d + j = t.Attrs.length → L3 t out m (t.Rows[i]) (t.Rows[k]'(by omega)) ((agrN t j i k : Nat) : Int) i p (p.length : Int) k j φ
 | 0, j, hd => by
  have hj : j = t.Attrs.length := by omega
  subst hj
  have hk' : k < t.Rows.length := by omega
  have la := ht.len (List.getElem_mem hi)
  have nr := ht.nr
  apply L3_step
  rw [if_neg (by omega)]
  by_cases hin : ((agrN t t.Attrs.length i k : Nat) : Int) ∈ out
  ·rw [if_pos ((hs _).2 hin)]
   apply L5_step
   rw [wrap_succ (by omega)]
   exact h out m hs (fun y => ⟨.inl, fun hh => hh.elim id fun e => e ▸ hin⟩) (by omega)
  ·rw [if_neg (fun hh => hin ((hs _).1 hh))]
   refine ⟨by omega, ?_⟩
   apply L5_step
   rw [wrap_succ (by omega)]
   exact h _ _ (seen_put hs) (fun y => by rw [List.mem_append, List.mem_singleton]) (by rw [List.length_append, List.length_singleton]; omega)
 | d + 1, j, hd => by
  have hk' : k < t.Rows.length := by omega
  have la := ht.len (List.getElem_mem hi)
  have lb := ht.len (List.getElem_mem hk')
  have na := ht.na
  have next := vals ht hi hk hlen hs h d (j + 1) (by omega)
  rw [agrN_succ] at next
  have e1 : ((t.Rows[i]).Values)[j]? = some (((t.Rows[i]).Values)[j]'(by omega)) := List.getElem?_eq_getElem _
  have e2 : ((t.Rows[k]).Values)[j]? = some (((t.Rows[k]).Values)[j]'(by omega)) := List.getElem?_eq_getElem _
  have heq : EqA t i k j ↔ ((t.Rows[i]).Values)[j]'(by omega) = ((t.Rows[k]).Values)[j]'(by omega) := by
   unfold EqA
   rw [List.getElem?_eq_getElem hi, List.getElem?_eq_getElem hk', Option.map_some, Option.map_some, e1, e2]
   simp
  have hlt := agrN_lt (t := t) (n := j) (i := i) (k := k)
  have hp := pow16 (n := j) (by omega)
  apply L3_step
  rw [if_pos (by omega)]
  refine ⟨_, lget_of e1, _, lget_of e2, ?_⟩
  by_cases he : EqA t i k j
  ·rw [if_pos he] at next
   rw [if_pos (valI_eq.2 (heq.1 he)), shl_bit (by omega), bOr_nat (k := .u32) (by simp only [top]; omega) (by simp only [top]; exact Nat.pow_lt_pow_right (by omega) (by omega))]
   refine ⟨by omega, ?_⟩
   apply L4_step
   rw [wrap_succ (by omega)]; exact next
  ·rw [if_neg he] at next
   rw [if_neg (fun hh => he (heq.2 (valI_eq.1 hh)))]
   apply L4_step
   rw [wrap_succ (by omega)]; exact next
theorem pairs {t : api_Table} {i : Nat} {φ : List Int → Prop} (ht : TV t) (hi : i < t.Rows.length) (h2 : t.Rows.length ≤ 200)
  (h : ∀ out m, seenB out m → Ags t out (fun a _ => a < i + 1) → out.length ≤ 200 * (i + 1) → L1 t out m ((i + 1 : Nat) : Int) φ) : ∀ (d k : Nat) (out : List Int) (m : List (Int × Bool)), d + k = i → seenB out m → Ags t out (fun a b => a < i ∨ a = i ∧ b < k) → out.length ≤ 200 * i + k → L2 t out m (t.Rows[i]) i (t.Rows.take i) ((t.Rows.take i).length : Int) k φ
 | 0, k, out, m, hd, hs, ho, hl => by
  have : k = i := by omega
  subst this
  apply L2_step
  rw [if_neg (by rw [List.length_take]; omega), wrap_succ (by omega)]
  refine h out m hs (fun y => ?_) (by omega)
  rw [ho y]
  constructor
  ·rintro ⟨a, b, h1, h2, h3, h4⟩; exact ⟨a, b, by omega, h2, h3, h4⟩
  ·rintro ⟨a, b, h1, h2, h3, h4⟩; exact ⟨a, b, by omega, h2, h3, h4⟩
 | d + 1, k, out, m, hd, hs, ho, hl => by
  apply L2_step
  have hk : k < t.Rows.length := by omega
  rw [if_pos (by rw [List.length_take]; omega)]
  refine ⟨t.Rows[k], lget_of (by rw [List.getElem?_take, if_pos (by omega)]; exact List.getElem?_eq_getElem hk), ?_⟩
  have := vals (t := t) (out := out) (m := m) (i := i) (k := k) (φ := φ) (p := t.Rows.take i) ht hi (by omega) (by omega) hs (fun out' m' hs' hm hl' => by
   refine pairs ht hi h2 h d (k + 1) out' m' (by omega) hs' (fun y => ?_) (by omega)
   rw [hm, ho y]
   constructor
   ·rintro (⟨a, b, h1, h2, h3, h4⟩ | h1)
    ·exact ⟨a, b, by omega, h2, h3, h4⟩
    ·exact ⟨i, k, by omega, hi, by omega, h1⟩
   ·rintro ⟨a, b, h1, h2, h3, h4⟩
    by_cases hab : a = i ∧ b = k
    ·obtain ⟨rfl, rfl⟩ := hab; exact .inr h4
    ·exact .inl ⟨a, b, by omega, h2, h3, h4⟩) t.Attrs.length 0 (by omega)
  exact this
theorem spec {t : api_Table} (ht : TV t) (h2 : t.Rows.length ≤ 200) : ∃ out, C t out ∧ out.length ≤ 40000 ∧ Ags t out (fun _ _ => True) := by
 obtain ⟨r, r1, r2⟩ := enter t (fun out => out.length ≤ 40000 ∧ Ags t out (fun _ _ => True)) (by
  have : ∀ (d i : Nat) (out : List Int) (m : List (Int × Bool)), d + i = t.Rows.length → seenB out m → Ags t out (fun a _ => a < i) → out.length ≤ 200 * i → L1 t out m i (fun out => out.length ≤ 40000 ∧ Ags t out (fun _ _ => True)) := by
   intro d
   induction d with
   | zero =>
    intro i out m hd hs ho hl
    apply L1_step
    rw [if_neg (by omega)]
    refine ⟨by omega, fun y => ?_⟩
    rw [ho y]
    constructor
    ·rintro ⟨a, b, h1, h2, h3, h4⟩; exact ⟨a, b, trivial, h2, h3, h4⟩
    ·rintro ⟨a, b, h1, h2, h3, h4⟩; exact ⟨a, b, by omega, h2, h3, h4⟩
   | succ d ih =>
    intro i out m hd hs ho hl
    have hi : i < t.Rows.length := by omega
    apply L1_step
    rw [if_pos (by omega), Int.toNat_natCast, Nat.sub_zero]
    refine ⟨_, lget_of (List.getElem?_eq_getElem hi), by omega, by omega, ?_⟩
    refine pairs ht hi h2 (fun out' m' hs' ho' hl' => ih (i + 1) out' m' (by omega) hs' ho' hl') i 0 out m (by omega) hs (fun y => ?_) (by omega)
    rw [ho y]
    constructor
    ·rintro ⟨a, b, h1, h2, h3, h4⟩; exact ⟨a, b, by omega, h2, h3, h4⟩
    ·rintro ⟨a, b, h1, h2, h3, h4⟩; exact ⟨a, b, by omega, h2, h3, h4⟩
  exact this _ 0 [] [] rfl (fun y => by simp [mgetD, mget]) (fun y => by simp) (by simp))
 exact ⟨r, r2, r1⟩
end armstrong_agrees
theorem meet_det {t : api_Table} (ht : TV t) (hn : t.Attrs.length ≤ 10) {out : List Int} (ho : Ags t out (fun _ _ => True)) {x : Nat} (hx : x < 2 ^ t.Attrs.length) : meetG (x : Int) ((2 ^ t.Attrs.length - 1 : Nat) : Int) out = ((detN t t.Attrs.length x : Nat) : Int) := by
 have hp := pow16 (n := t.Attrs.length) (by omega)
 have hu : AllU out := fun y hy => by
  obtain ⟨a, b, _, _, _, rfl⟩ := (ho y).1 hy
  exact U32.of (Nat.lt_of_lt_of_le agrN_lt (by omega))
 have hd := detN_lt (t := t) (n := t.Attrs.length) (x := x)
 obtain ⟨a, b⟩ := meetG_spec (s := (x : Int)) (m := ((2 ^ t.Attrs.length - 1 : Nat) : Int)) hu (U32.of (by omega))
 refine a.ext (U32.of (by omega)) (Nat.eq_of_testBit_eq fun i => Bool.eq_iff_iff.2 ?_)
 rw [b]
 simp only [sN_nat]
 rw [detN_bit, pow_bit, decide_eq_true_iff]
 refine and_congr_right fun hi => ?_
 rw [sat_iff ht (by omega) (Nat.pow_lt_pow_right (by omega) (by omega))]
 constructor
 ·intro h p q hp hq e c hc
  rw [bit_pow, decide_eq_true_iff] at hc
  subst hc
  have := h _ ((ho _).2 ⟨p, q, trivial, hp, hq, rfl⟩) (by
   rw [sN_nat]
   exact fun b hb => agrN_bit.2 ⟨lt_iff.1 hx b hb, e b hb⟩)
  rw [sN_nat] at this
  exact (agrN_bit.1 this).2
 ·intro h c hc hsub
  obtain ⟨p, q, _, hp, hq, rfl⟩ := (ho c).1 hc
  rw [sN_nat] at hsub
  rw [sN_nat]
  exact agrN_bit.2 ⟨hi, h p q hp hq (fun b hb => (agrN_bit.1 (hsub b hb)).2) i (by rw [bit_pow]; simp)⟩
theorem low_more {t : api_Table} {l : List api_FD} {n x : Nat} (hn : n ≤ 16) (h : moreN t l n x ≠ 0) : (moreN t l n x).testBit (lowest (moreN t l n x) 32 0) = true ∧ ∀ j, j < lowest (moreN t l n x) 32 0 → (moreN t l n x).testBit j = false := by
 have hp := pow16 hn
 have hlt := moreN_lt (t := t) (l := l) (n := n) (x := x)
 obtain ⟨j, hj, hb⟩ := ex_bit h (by omega)
 exact low_spec (fun j hj => by omega) ⟨j, by omega, hb⟩
theorem extL_cons {t : api_Table} {l : List api_FD} {n : Nat} {y : Int} {r : List Int} : extL t l n (y :: r) = if moreN t l n (sN y) = 0 then extL t l n r else ({ Lhs := y, Rhs := ((2 ^ lowest (moreN t l n (sN y)) 32 0 : Nat) : Int) }, 0) := rfl
namespace armstrong_Extra
theorem meets {t : api_Table} {l : List api_FD} {out q : List Int} {i : Nat} {x : Nat} {φ : api_FD × Int → Prop} (hl : FdOK l) (hlen : l.length < 1000000000) (h0 : errT t l = 0) (ho : Ags t out (fun _ _ => True)) (hol : out.length ≤ 40000) (hx : x < 2 ^ t.Attrs.length) (hi : i < 100000)
  (h : if moreN t l t.Attrs.length x = 0 then L1 l (t.Attrs.length : Int) out q ((i + 1 : Nat) : Int) φ else φ ({ Lhs := (x : Int), Rhs := ((2 ^ lowest (moreN t l t.Attrs.length x) 32 0 : Nat) : Int) }, 0)) : ∀ (r : List Int) (k : Nat) (m : Int), out.drop k = r → meetG (x : Int) m r = meetG (x : Int) ((2 ^ t.Attrs.length - 1 : Nat) : Int) out → L2 l (t.Attrs.length : Int) out (x : Int) m q i k φ
 | [], k, m, hd, he => by
  obtain ⟨g1, g2, g3, g4⟩ := errT_ok h0
  have hp := pow16 (n := t.Attrs.length) (by omega)
  have := drop_ge hd
  have he : m = meetG (x : Int) ((2 ^ t.Attrs.length - 1 : Nat) : Int) out := he
  rw [meet_det g1 g3 ho hx] at he
  subst he
  have hcl : cloN l x < 2 ^ t.Attrs.length := cloN_lt (fun d hd => (g4 d hd).2) hx
  have hdt := detN_lt (t := t) (n := t.Attrs.length) (x := x)
  have e : bAndNot .u32 ((detN t t.Attrs.length x : Nat) : Int) ((cloN l x : Nat) : Int) = ((moreN t l t.Attrs.length x : Nat) : Int) := bAndNot_nat (k := .u32) (by simp only [top]; omega) (by simp only [top]; omega)
  have hmt := moreN_lt (t := t) (l := l) (n := t.Attrs.length) (x := x)
  apply L2_step
  rw [if_neg (by omega)]
  refine ⟨_, closure_Close.spec hl hlen (s := x) (by omega), ?_⟩
  rw [e]
  by_cases hm : moreN t l t.Attrs.length x = 0
  ·rw [if_pos hm] at h
   rw [if_pos (by omega), wrap_succ (by omega)]; exact h
  ·rw [if_neg hm] at h
   obtain ⟨l1, l2⟩ := low_more (t := t) (l := l) (n := t.Attrs.length) (x := x) (by omega) hm
   rw [if_neg (by omega), low_and (by omega) l1 l2]; exact h
 | c :: r, k, m, hd, he => by
  obtain ⟨g1, g2, g3, g4⟩ := errT_ok h0
  have hp := pow16 (n := t.Attrs.length) (by omega)
  have hlt := drop_lt hd
  have hc : U32 c := by
   obtain ⟨a, b, _, _, _, rfl⟩ := (ho c).1 (List.mem_of_getElem? (drop_get hd))
   exact U32.of (Nat.lt_of_lt_of_le agrN_lt (by omega))
  have hxu : U32 (x : Int) := U32.of (by omega)
  have next : L3 l (t.Attrs.length : Int) out (x : Int) (meetT (x : Int) m c) q i k φ := by
   apply L3_step
   rw [wrap_succ (by omega)]
   exact meets hl hlen h0 ho hol hx hi h r (k + 1) _ (drop_next hd) he
  apply L2_step
  rw [if_pos (by omega)]
  refine ⟨c, lget_drop hd, ?_⟩
  unfold meetT at next
  by_cases hs : sN (x : Int) &&& sN c = sN (x : Int)
  ·rw [if_pos hs] at next
   rw [if_pos ((and_sub hc hxu).2 hs)]; exact next
  ·rw [if_neg hs] at next
   rw [if_neg (fun hh => hs ((and_sub hc hxu).1 hh))]; exact next
theorem sets {t : api_Table} {l : List api_FD} {out : List Int} {φ : api_FD × Int → Prop} (hl : FdOK l) (hlen : l.length < 1000000000) (h0 : errT t l = 0) (ho : Ags t out (fun _ _ => True)) (hol : out.length ≤ 40000) : ∀ (r : List Int) (k : Nat), (subsF (2 ^ t.Attrs.length - 1)).drop k = r → φ (extL t l t.Attrs.length r) → L1 l (t.Attrs.length : Int) out (subsF (2 ^ t.Attrs.length - 1)) k φ
 | [], k, hd, h => by
  have := drop_ge hd
  apply L1_step
  rw [if_neg (by omega)]; exact h
 | y :: r, k, hd, h => by
  obtain ⟨g1, g2, g3, g4⟩ := errT_ok h0
  have hp := pow16 (n := t.Attrs.length) (by omega)
  have hlt := drop_lt hd
  have hsl := subs_len (n := t.Attrs.length) (by omega)
  obtain ⟨x, rfl, hx⟩ := (subs_mem (by omega)).1 (List.mem_of_getElem? (drop_get hd))
  rw [extL_cons, sN_nat] at h
  apply L1_step
  rw [if_pos (by omega)]
  refine ⟨_, lget_drop hd, _, armstrong_full.spec (by omega), ?_⟩
  refine meets hl hlen h0 ho hol hx (by omega) ?_ out 0 _ rfl rfl
  by_cases hm : moreN t l t.Attrs.length x = 0
  ·rw [if_pos hm] at h ⊢
   exact sets hl hlen h0 ho hol r (k + 1) (drop_next hd) h
  ·rw [if_neg hm] at h ⊢
   exact h
theorem spec {t : api_Table} {l : List api_FD} (hl : FdOK l) (hlen : l.length < 1000000000) : C t l (extraF t l) := by
 obtain ⟨r, h1, h2⟩ := enter t l (fun r => r = extraF t l) (by
  refine ⟨_, armstrong_checkTable.spec hl, ?_⟩
  unfold extraF
  split
  ·rename_i h0
   obtain ⟨g1, g2, g3, g4⟩ := errT_ok h0
   have hp := pow16 (n := t.Attrs.length) (by omega)
   obtain ⟨out, o1, o2, o3⟩ := armstrong_agrees.spec g1 g2
   exact ⟨out, o1, _, armstrong_full.spec (by omega), _, attrset_Subsets.spec (by omega), sets hl hlen h0 o3 o2 _ 0 rfl rfl⟩
  ·rfl)
 rw [← h1]; exact h2
end armstrong_Extra
theorem armstrong_Broken_1.spec {t : api_Table} {l : List api_FD} (hnum : TNum t) (h0 : errT t l = 0) (hl : FdOK l) {d : api_FD} (hd : d ∈ l) : armstrong_Broken_1.C d t.Name t.Attrs t.Rows (!satB t (sN d.Lhs) (sN d.Rhs)) := by
 obtain ⟨g1, g2, g3, g4⟩ := errT_ok h0
 obtain ⟨u1, u2⟩ := hl d hd
 obtain ⟨v1, v2⟩ := g4 d hd
 obtain ⟨q, q1, q2, q3⟩ := partition_Holds.spec (t := t) (fd := d) hnum u1.eq u2.eq u1.lt u2.lt
 have hh : holdsE t (sN d.Lhs) (sN d.Rhs) = 0 := by
  unfold holdsE
  rw [if_pos (tableF_iff.2 g1), if_pos (Nat.or_lt_two_pow v1 v2)]
 obtain ⟨r, h1, h2⟩ := armstrong_Broken_1.enter d t.Name t.Attrs t.Rows (fun r => r = !satB t (sN d.Lhs) (sN d.Rhs)) ⟨q, q1, by
  have : q.1 = satB t (sN d.Lhs) (sN d.Rhs) := Bool.eq_iff_iff.2 (by rw [q3, satB_iff, hh]; simp)
  rw [this]⟩
 rw [← h1]; exact h2
theorem brk_ix {t : api_Table} : ∀ {l : List api_FD} {k : Nat}, (ixFrom (fun d => !satB t (sN d.Lhs) (sN d.Rhs)) l k = -1 ∧ brkL t l = ({ Lhs := 0, Rhs := 0 }, 4)) ∨ ∃ (n : Nat) (d : api_FD), ixFrom (fun d => !satB t (sN d.Lhs) (sN d.Rhs)) l k = ((k + n : Nat) : Int) ∧ l[n]? = some d ∧ brkL t l = (d, 0)
 | [], k => .inl ⟨rfl, rfl⟩
 | d :: l, k => by
  by_cases h : satB t (sN d.Lhs) (sN d.Rhs) = true
  ·rcases brk_ix (t := t) (l := l) (k := k + 1) with ⟨h1, h2⟩ | ⟨n, e, h1, h2, h3⟩
   ·left
    refine ⟨?_, by rw [brkL, if_pos h]; exact h2⟩
    rw [ixFrom, if_neg (by rw [h]; decide)]; exact h1
   ·right
    refine ⟨n + 1, e, ?_, by simpa using h2, by rw [brkL, if_pos h]; exact h3⟩
    rw [ixFrom, if_neg (by rw [h]; decide), h1]; congr 1; omega
  ·right
   have h' : satB t (sN d.Lhs) (sN d.Rhs) = false := by simpa using h
   refine ⟨0, d, ?_, rfl, by rw [brkL, if_neg h]⟩
   rw [ixFrom, if_pos (by rw [h']; rfl)]; rfl
theorem armstrong_Broken.spec {t : api_Table} {l : List api_FD} (hnum : TNum t) (hl : FdOK l) (hlen : l.length < 1000000000) : armstrong_Broken.C t l (brkF t l) := by
 obtain ⟨r, h1, h2⟩ := armstrong_Broken.enter t l (fun r => r = brkF t l) (by
  refine ⟨_, armstrong_checkTable.spec hl, ?_⟩
  unfold brkF
  split
  ·rename_i h0
   obtain ⟨g1, g2, g3, g4⟩ := errT_ok h0
   obtain ⟨q, q1, q2⟩ := slices_IndexFunc_sapi_FD_api_FD_armstrong_Broken_1.enter l t.Name t.Attrs t.Rows (fun r => r = ixI (fun d => !satB t (sN d.Lhs) (sN d.Rhs)) l) (by
    refine index_loop (l := l) (p := fun d => !satB t (sN d.Lhs) (sN d.Rhs)) (L := fun i => slices_IndexFunc_sapi_FD_api_FD_armstrong_Broken_1.L1 l t.Name t.Attrs t.Rows i _) (φ := fun r => r = ixI (fun d => !satB t (sN d.Lhs) (sN d.Rhs)) l) (fun h => ?_) (fun k d hk hlt h => ?_) rfl
    ·apply slices_IndexFunc_sapi_FD_api_FD_armstrong_Broken_1.L1_step
     rw [if_neg (by omega)]; exact h
    ·apply slices_IndexFunc_sapi_FD_api_FD_armstrong_Broken_1.L1_step
     rw [if_pos (by omega)]
     refine ⟨d, lget_of hk, _, armstrong_Broken_1.spec hnum h0 hl (List.mem_of_getElem? hk), ?_⟩
     rw [wrap_succ (by omega)]; exact h)
   subst q1
   refine ⟨_, q2, ?_⟩
   rcases brk_ix (t := t) (l := l) (k := 0) with ⟨a1, a2⟩ | ⟨n, d, a1, a2, a3⟩
   ·have : ixI (fun d => !satB t (sN d.Lhs) (sN d.Rhs)) l = -1 := a1
    rw [this, if_pos (by omega), a2]
   ·have : ixI (fun d => !satB t (sN d.Lhs) (sN d.Rhs)) l = ((n : Nat) : Int) := by rw [Nat.zero_add] at a1; exact a1
    rw [this, if_neg (by omega), a3]
    exact ⟨d, lget_of a2, rfl⟩
  ·rfl)
 rw [← h1]; exact h2
end Go.Own
namespace Go.Own
theorem drossref19_Broken.spec {t : api_Table} {l : List api_FD} (hl : FdOK l) (hlen : l.length < 1000000000) : drossref19_Broken.C t l (brkF t l) := by
 obtain ⟨r, h1, h2⟩ := drossref19_Broken.enter t l (fun r => r = brkF t l) (by
  refine ⟨_, drossref19_TableError.spec hl, ?_⟩
  unfold brkF
  split
  ·rename_i h0
   obtain ⟨g1, g2, g3, g4⟩ := errT_ok h0
   have : ∀ (r : List api_FD) (k : Nat), l.drop k = r → brkL t r = brkL t l → drossref19_Broken.L1 t l k (fun r => r = brkL t l) := by
    intro r
    induction r with
    | nil =>
     intro k hd he
     have := drop_ge hd
     apply drossref19_Broken.L1_step
     rw [if_neg (by omega), ← he]; rfl
    | cons d r ih =>
     intro k hd he
     have hlt := drop_lt hd
     obtain ⟨u1, u2⟩ := hl d (List.mem_of_getElem? (drop_get hd))
     apply drossref19_Broken.L1_step
     rw [if_pos (by omega)]
     refine ⟨d, lget_drop hd, _, drossref19_Holds.spec g1 u1 u2, ?_⟩
     rw [brkL] at he
     by_cases hb : satB t (sN d.Lhs) (sN d.Rhs) = true
     ·rw [if_pos hb] at he ⊢
      rw [wrap_succ (by omega)]
      exact ih (k + 1) (drop_next hd) he
     ·rw [if_neg hb] at he ⊢
      exact he
   exact this l 0 rfl rfl
  ·rfl)
 rw [← h1]; exact h2
namespace drossref19_Extra
theorem atts {t : api_Table} {l : List api_FD} {q : List Int} {i : Nat} {x : Nat} {φ : api_FD × Int → Prop} (hl : FdOK l) (hlen : l.length < 1000000000) (h0 : errT t l = 0) (hx : x < 2 ^ t.Attrs.length) (hi : i < 100000) (hq : q[i]? = some (x : Int))
  (h : if moreN t l t.Attrs.length x = 0 then L1 t l q ((i + 1 : Nat) : Int) φ else φ ({ Lhs := (x : Int), Rhs := ((2 ^ lowest (moreN t l t.Attrs.length x) 32 0 : Nat) : Int) }, 0)) : ∀ (d a : Nat), d + a = t.Attrs.length → (∀ j, j < a → (moreN t l t.Attrs.length x).testBit j = false) → L2 t l q i a φ
 | 0, a, hd, hz => by
  obtain ⟨g1, g2, g3, g4⟩ := errT_ok h0
  have hm : moreN t l t.Attrs.length x = 0 := zero_bits.2 fun j => by
   by_cases hj : j < a
   ·exact hz j hj
   ·cases hb : (moreN t l t.Attrs.length x).testBit j with
    | false => rfl
    | true => have := lt_iff.1 (moreN_lt (t := t) (l := l) (n := t.Attrs.length) (x := x)) j hb; omega
  rw [if_pos hm] at h
  apply L2_step
  rw [if_neg (by omega), wrap_succ (by omega)]
  exact h
 | d + 1, a, hd, hz => by
  obtain ⟨g1, g2, g3, g4⟩ := errT_ok h0
  have hp := pow16 (n := t.Attrs.length) (by omega)
  have hxu : U32 (x : Int) := U32.of (by omega)
  have han : a < t.Attrs.length := by omega
  have skip : (moreN t l t.Attrs.length x).testBit a = false → L3 t l q i a φ := fun hb => by
   apply L3_step
   rw [wrap_succ (by omega)]
   refine atts hl hlen h0 hx hi hq h d (a + 1) (by omega) fun j hj => ?_
   by_cases hja : j = a
   ·subst hja; exact hb
   ·exact hz j (by omega)
  apply L2_step
  rw [if_pos (by omega)]
  refine ⟨_, lget_of hq, by omega, _, drossref02_Has.spec (n := x) (by omega), ?_⟩
  rw [shl_bit (by omega)]
  have hub : U32 ((2 ^ a : Nat) : Int) := u32_bit (by omega)
  split
  ·rename_i hb
   refine skip ?_
   cases hm : (moreN t l t.Attrs.length x).testBit a with
   | false => rfl
   | true =>
    have := (moreN_bit.1 hm).2
    rw [cloN_up a hb] at this; cases this
  ·rename_i hb
   refine ⟨_, drossref19_Holds.spec (fd := { Lhs := (x : Int), Rhs := ((2 ^ a : Nat) : Int) }) g1 hxu hub, ?_⟩
   simp only [sN_nat]
   split
   ·rename_i hs
    have him := drossref09_Implies.spec (d := { Lhs := (x : Int), Rhs := ((2 ^ a : Nat) : Int) }) hl hlen hxu hub
    rw [impB_bit] at him
    refine ⟨_, him, ?_⟩
    split
    ·rename_i hc
     refine skip ?_
     cases hm : (moreN t l t.Attrs.length x).testBit a with
     | false => rfl
     | true =>
      have := (moreN_bit.1 hm).2
      rw [hc] at this; cases this
    ·rename_i hc
     have hc : (cloN l x).testBit a = false := by simpa using hc
     have hma : (moreN t l t.Attrs.length x).testBit a = true := moreN_bit.2 ⟨⟨han, satB_iff.1 hs⟩, hc⟩
     have hne : moreN t l t.Attrs.length x ≠ 0 := fun hz => by rw [hz, Nat.zero_testBit] at hma; cases hma
     rw [if_neg hne] at h
     obtain ⟨l1, l2⟩ := low_more (t := t) (l := l) (n := t.Attrs.length) (x := x) (by omega) hne
     have hlow : lowest (moreN t l t.Attrs.length x) 32 0 = a := by
      rcases Nat.lt_trichotomy (lowest (moreN t l t.Attrs.length x) 32 0) a with hh | hh | hh
      ·rw [hz _ hh] at l1; cases l1
      ·exact hh
      ·rw [l2 _ hh] at hma; cases hma
     rw [hlow] at h
     exact h
   ·rename_i hs
    refine skip ?_
    cases hm : (moreN t l t.Attrs.length x).testBit a with
    | false => rfl
    | true => exact absurd (satB_iff.2 (moreN_bit.1 hm).1.2) hs
theorem sets {t : api_Table} {l : List api_FD} {φ : api_FD × Int → Prop} (hl : FdOK l) (hlen : l.length < 1000000000) (h0 : errT t l = 0) : ∀ (r : List Int) (k : Nat), (subsF (2 ^ t.Attrs.length - 1)).drop k = r → φ (extL t l t.Attrs.length r) → L1 t l (subsF (2 ^ t.Attrs.length - 1)) k φ
 | [], k, hd, h => by
  have := drop_ge hd
  apply L1_step
  rw [if_neg (by omega)]; exact h
 | y :: r, k, hd, h => by
  obtain ⟨g1, g2, g3, g4⟩ := errT_ok h0
  have hp := pow16 (n := t.Attrs.length) (by omega)
  have hlt := drop_lt hd
  have hsl := subs_len (n := t.Attrs.length) (by omega)
  obtain ⟨x, rfl, hx⟩ := (subs_mem (by omega)).1 (List.mem_of_getElem? (drop_get hd))
  rw [extL_cons, sN_nat] at h
  apply L1_step
  rw [if_pos (by omega)]
  refine atts hl hlen h0 hx (by omega) (drop_get hd) ?_ _ 0 rfl (fun j hj => by omega)
  by_cases hm : moreN t l t.Attrs.length x = 0
  ·rw [if_pos hm] at h ⊢
   exact sets hl hlen h0 r (k + 1) (drop_next hd) h
  ·rw [if_neg hm] at h ⊢
   exact h
theorem spec {t : api_Table} {l : List api_FD} (hl : FdOK l) (hlen : l.length < 1000000000) : C t l (extraF t l) := by
 obtain ⟨r, h1, h2⟩ := enter t l (fun r => r = extraF t l) (by
  refine ⟨_, drossref19_TableError.spec hl, ?_⟩
  unfold extraF
  split
  ·rename_i h0
   obtain ⟨g1, g2, g3, g4⟩ := errT_ok h0
   have hp := pow16 (n := t.Attrs.length) (by omega)
   exact ⟨_, full_spec (by omega), _, drossref02_Subsets.spec (by omega), sets hl hlen h0 _ 0 rfl rfl⟩
  ·rfl)
 rw [← h1]; exact h2
end drossref19_Extra
namespace drossref19_Exact
end drossref19_Exact
end Go.Own
namespace Go.Own
def smallA (t : api_Table) (l : List api_FD) : Bool := decide (t.Rows.length ≤ 8 ∧ t.Attrs.length ≤ 20 ∧ (t.Attrs.length ≤ 5 ∨ 10 < t.Attrs.length) ∧ l.length ≤ 70)
theorem drosslaw19_small.spec {t : api_Table} {l : List api_FD} : drosslaw19_small.C t l (smallA t l) := by
 obtain ⟨r, h1, h2⟩ := drosslaw19_small.enter t l (fun r => r = smallA t l) (by
  unfold smallA
  have no : ¬ (t.Rows.length ≤ 8 ∧ t.Attrs.length ≤ 20 ∧ (t.Attrs.length ≤ 5 ∨ 10 < t.Attrs.length) ∧ l.length ≤ 70) → false = decide (t.Rows.length ≤ 8 ∧ t.Attrs.length ≤ 20 ∧ (t.Attrs.length ≤ 5 ∨ 10 < t.Attrs.length) ∧ l.length ≤ 70) := fun h => (decide_eq_false h).symm
  split
  ·split
   ·split
    ·exact decide_eq_decide.2 (by omega)
    ·split
     ·exact decide_eq_decide.2 (by omega)
     ·exact no (by omega)
   ·exact no (by omega)
  ·exact no (by omega))
 rw [← h1]; exact h2
theorem smallA_len {t : api_Table} {l : List api_FD} (h : smallA t l = true) : l.length ≤ 70 := (of_decide_eq_true h).2.2.2
end Go.Own
namespace Go.Own
namespace drosslaw19_ArmstrongExtra
theorem again {φ : Bool → Prop} (h : φ true) : L1 φ := L1_step φ ⟨true, drosslaw19_awake.spec, h⟩
theorem same (d : api_FD) : (and (d.Lhs == d.Lhs) (and (d.Rhs == d.Rhs) true)) = true := by simp
theorem spec (t : api_Table) (l : List api_FD) (hnum : TNum t) (hl : FdOK l) : C t l true := by
 obtain ⟨r, h1, h2⟩ := enter t l (fun r => r = true) (by
  refine ⟨true, drosslaw19_awake.spec, ?_⟩
  rw [if_pos rfl]
  refine ⟨_, drosslaw19_small.spec, ?_⟩
  cases hf : smallA t l with
  | false => rw [if_neg (by decide)]; exact again rfl
  | true =>
   have hlen := smallA_len hf
   rw [if_pos rfl]
   refine ⟨by omega, _, armstrong_Extra.spec hl (by omega), _, drossref19_Extra.spec hl (by omega), by omega, _, armstrong_Broken.spec hnum hl (by omega), _, drossref19_Broken.spec hl (by omega), ?_⟩
   rw [if_pos (same _), if_pos rfl, if_pos (same _)]
   simp)
 subst h1; exact h2
theorem law {xs : List D} (hx : TyAll env.P drosslaw19_ArmstrongExtra_K drosslaw19_ArmstrongExtra_T xs) : Ret env drosslaw19_ArmstrongExtra_F xs (.lit (.bool true)) [] :=
 drosslaw19_ArmstrongExtra_of (fun x0 x1 h0 h1 => spec x0 x1 (TNum_of h0) (fun d hd => ⟨u32_of (h1.2 d hd).1, u32_of (h1.2 d hd).2⟩)) hx
end drosslaw19_ArmstrongExtra
end Go.Own
