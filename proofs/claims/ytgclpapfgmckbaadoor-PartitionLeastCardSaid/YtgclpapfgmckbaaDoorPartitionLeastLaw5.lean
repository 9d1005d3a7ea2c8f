/- What the functions that the law reaches answer. No conditions. -/
import Derived.Test.YtgclpapfgmckbaaDoorPartitionLeastLaw3
import Derived.Test.YtgclpapfgmckbaaDoorPartitionLeastLaw4
import Derived.Test.YtgclpapfgmckbaaDoorPartitionLeastLaw1
import Derived.Test.YtgclpapfgmckbaaDoorPartitionLeastLaw2
set_option linter.all false

namespace Go.Own
def goneL (K : Nat → Bool) (c : List Int) : List Int := c.filter fun i => !K i.toNat
def gone (K : Nat → Bool) (n : Nat) : Nat := ((List.range n).filter fun i => !K i).length
def okP (a b : List Int) (K : Nat → Bool) (i k : Nat) : Bool := !(K i && K k && decide (a[i]? = a[k]?) && !decide (b[i]? = b[k]?))
def okK (a b : List Int) (K : Nat → Bool) (n : Nat) : Bool := (List.range n).all fun i => (List.range i).all fun k => okP a b K i k
theorem okK_iff {a b : List Int} {K : Nat → Bool} {n : Nat} : okK a b K n = true ↔ ∀ i k, i < n → k < i → K i = true → K k = true → a[i]? = a[k]? → b[i]? = b[k]? := by
  unfold okK okP
  simp only [List.all_eq_true, List.mem_range]
  constructor
  · intro h i k hi hk h1 h2 h3
    have := h i hi k hk
    simpa [h1, h2, h3] using this
  · intro h i hi k hk
    by_cases h1 : K i = true
    · by_cases h2 : K k = true
      · by_cases h3 : a[i]? = a[k]?
        · simp [h1, h2, h3, h i k hi hk h1 h2 h3]
        · simp [h3]
      · simp [h2]
    · simp [h1]
theorem gone_succ {K : Nat → Bool} {n : Nat} : gone K (n + 1) = gone K n + if K n then 0 else 1 := by
  unfold gone
  rw [List.range_succ, List.filter_append, List.length_append]
  cases h : K n <;> simp [h]
theorem gone_le {K : Nat → Bool} {n : Nat} : gone K n ≤ n := by
  unfold gone
  exact Nat.le_trans (List.length_filter_le _ _) (by simp)
theorem gone_map {K : Nat → Bool} {n : Nat} : (goneL K ((List.range n).map fun (k : Nat) => (k : Int))).length = gone K n := by
  unfold goneL gone
  rw [List.filter_map, List.length_map]
  congr 1
theorem CP.flat {rows : Int} {cs : List (List Int)} (h : CP rows cs) : cs.flatten.Nodup := by
  rw [List.Nodup, List.pairwise_flatten]
  refine ⟨fun c hc => ?_, ?_⟩
  · exact (h.inc c hc).imp fun h => by omega
  · refine h.disj.imp fun {c d} hcd => ?_
    intro i hi j hd hij
    exact hcd i hi (hij ▸ hd)
theorem gone_flat {K : Nat → Bool} : ∀ {cs : List (List Int)}, ((goneL K cs.flatten).length : Int) = (cs.map fun c => ((goneL K c).length : Int)).foldr (· + ·) 0
  | [] => rfl
  | c :: cs => by
    have ih := gone_flat (K := K) (cs := cs)
    simp only [List.flatten_cons, List.map_cons, List.foldr_cons, ← ih]
    unfold goneL
    rw [List.filter_append, List.length_append]
    omega
theorem nodup_map_cast {l : List Nat} (h : l.Nodup) : (l.map fun (k : Nat) => (k : Int)).Nodup := by
  rw [List.Nodup, List.pairwise_map]
  exact List.Pairwise.imp (fun h => by omega) h
theorem remS_le {b : List Int} {K : Nat → Bool} : ∀ {cs : List (List Int)}, (∀ c ∈ cs, (c.length : Int) - maxc (c.map (lab1 b)) ≤ ((goneL K c).length : Int)) → remS b cs ≤ (cs.map fun c => ((goneL K c).length : Int)).foldr (· + ·) 0
  | [], _ => by simp [remS]
  | c :: cs, h => by
    have := remS_le (b := b) (K := K) (cs := cs) fun d hd => h d (by simp [hd])
    have h1 := h c (by simp)
    simp only [remS, List.map_cons, List.foldr_cons]
    omega
theorem remS_ge {b : List Int} {K : Nat → Bool} : ∀ {cs : List (List Int)}, (∀ c ∈ cs, ((goneL K c).length : Int) ≤ (c.length : Int) - maxc (c.map (lab1 b))) → (cs.map fun c => ((goneL K c).length : Int)).foldr (· + ·) 0 ≤ remS b cs
  | [], _ => by simp [remS]
  | c :: cs, h => by
    have := remS_ge (b := b) (K := K) (cs := cs) fun d hd => h d (by simp [hd])
    have h1 := h c (by simp)
    simp only [remS, List.map_cons, List.foldr_cons]
    omega
theorem len_split {c : List Int} {p : Int → Bool} : (c.filter p).length + (c.filter fun i => !p i).length = c.length := by
  induction c with
  | nil => rfl
  | cons a c ih =>
    by_cases h : p a = true
    · simp [h]; omega
    · simp [h]; omega
theorem count_map {c : List Int} {f : Int → Int} {x : Int} : (c.map f).count x = (c.filter fun i => decide (f i = x)).length := by
  induction c with
  | nil => rfl
  | cons a c ih =>
    by_cases h : f a = x
    · simp [h, ih]
    · simp [h, ih]
theorem best_ex {b c : List Int} (hc : c ≠ []) : ∃ x, ((c.map (lab1 b)).count x : Int) = maxc (c.map (lab1 b)) := by
  have hp := maxc_pos (l := c.map (lab1 b)) (by simpa using hc)
  false_or_by_contra
  rename_i hn
  have : maxc (c.map (lab1 b)) ≤ maxc (c.map (lab1 b)) - 1 := maxc_le.2 ⟨by omega, fun x hx => by
    have h1 := (maxc_le.1 (Int.le_refl (maxc (c.map (lab1 b))))).2 x hx
    have h2 : ((c.map (lab1 b)).count x : Int) ≠ maxc (c.map (lab1 b)) := fun h => hn ⟨x, h⟩
    omega⟩
  omega
section
variable {a b : List Int} (hl : a.length = b.length)
include hl
theorem least_lower {K : Nat → Bool} (hK : okK a b K a.length = true) : remS b (grpF a) ≤ (gone K a.length : Int) := by
  have hcp := part_CP (l := a)
  have h1 := remS_le (b := b) (K := K) (cs := grpF a) (fun c hc => by
    have hs := len_split (c := c) (p := fun i => K i.toNat)
    have hk : ((c.filter fun i => K i.toNat).length : Int) ≤ maxc (c.map (lab1 b)) := by
      by_cases hne : (c.filter fun i => K i.toNat) = []
      · rw [hne]; exact maxc_nonneg
      · obtain ⟨i0, h0⟩ := List.exists_mem_of_ne_nil _ hne
        have h0' := List.mem_filter.1 h0
        have hc2 : ((c.map (lab1 b)).count (lab1 b i0) : Int) ≤ maxc (c.map (lab1 b)) := (maxc_le.1 (Int.le_refl _)).2 _ (List.mem_map.2 ⟨i0, h0'.1, rfl⟩)
        rw [count_map] at hc2
        refine Int.le_trans ?_ hc2
        have : (c.filter fun i => K i.toNat).length ≤ (c.filter fun i => decide (lab1 b i = lab1 b i0)).length := by
          rw [← List.countP_eq_length_filter, ← List.countP_eq_length_filter]
          refine List.countP_mono_left fun i hi hki => ?_
          simp only [decide_eq_true_eq]
          obtain ⟨x, _, rfl, _⟩ := mem_grpF.1 hc
          have e1 := mem_cls.1 hi
          have e2 := mem_cls.1 h0'.1
          obtain ⟨p1, p2⟩ := lget_some e1
          obtain ⟨q1, q2⟩ := lget_some e2
          have n1 := (List.getElem?_eq_some_iff.1 p2).1
          have n2 := (List.getElem?_eq_some_iff.1 q2).1
          have := okK_iff.1 hK
          have key : b[i.toNat]? = b[i0.toNat]? := by
            rcases Nat.lt_trichotomy i.toNat i0.toNat with h | h | h
            · exact (this i0.toNat i.toNat n2 h h0'.2 hki (by rw [p2, q2])).symm
            · rw [h]
            · exact this i.toNat i0.toNat n1 h hki h0'.2 (by rw [p2, q2])
          rw [lab1_iff (by omega) (by omega)]
          simp only [lget, if_pos p1, if_pos q1]
          exact key
        omega
    unfold goneL
    omega)
  refine Int.le_trans h1 ?_
  rw [← gone_flat, ← gone_map]
  have : (goneL K (grpF a).flatten).length ≤ (goneL K ((List.range a.length).map fun (k : Nat) => (k : Int))).length := by
    refine List.Nodup.length_le_of_subset (List.Pairwise.filter _ hcp.flat) ?_
    intro i hi
    have hi := List.mem_filter.1 hi
    obtain ⟨c, hc, hic⟩ := List.mem_flatten.1 hi.1
    have := hcp.inn c hc i hic
    refine List.mem_filter.2 ⟨List.mem_map.2 ⟨i.toNat, by simp; omega, by omega⟩, hi.2⟩
  omega
theorem least_upper : ∃ K : Nat → Bool, okK a b K a.length = true ∧ (gone K a.length : Int) = remS b (grpF a) := by
  have hcp := part_CP (l := a)
  have hne : ∀ c ∈ grpF a, c ≠ [] := fun c hc h => by have := hcp.two c hc; rw [h] at this; simp at this
  have hbest : ∀ c ∈ grpF a, ∃ x, ((c.map (lab1 b)).count x : Int) = maxc (c.map (lab1 b)) := fun c hc => best_ex (hne c hc)
  let best (c : List Int) : Int := Classical.epsilon fun x => ((c.map (lab1 b)).count x : Int) = maxc (c.map (lab1 b))
  have hb : ∀ c ∈ grpF a, ((c.map (lab1 b)).count (best c) : Int) = maxc (c.map (lab1 b)) := fun c hc => Classical.epsilon_spec (hbest c hc)
  let K (i : Nat) : Bool := (grpF a).all fun c => !decide ((i : Int) ∈ c) || decide (lab1 b (i : Int) = best c)
  have hKiff : ∀ c ∈ grpF a, ∀ i ∈ c, K i.toNat = decide (lab1 b i = best c) := fun c hc i hi => by
    have hin := hcp.inn c hc i hi
    have e : ((i.toNat : Nat) : Int) = i := by omega
    have : K i.toNat = true ↔ decide (lab1 b i = best c) = true := by
      show ((grpF a).all fun c => !decide (((i.toNat : Nat) : Int) ∈ c) || decide (lab1 b ((i.toNat : Nat) : Int) = best c)) = true ↔ _
      rw [e, List.all_eq_true]
      constructor
      · intro h
        have := h c hc
        simpa [hi] using this
      · intro h d hd
        by_cases hid : i ∈ d
        · have := hcp.uniq hc hd hi hid
          subst this
          simp [h]
        · simp [hid]
    cases h1 : K i.toNat <;> cases h2 : decide (lab1 b i = best c) <;> simp_all
  refine ⟨K, ?_, ?_⟩
  · rw [okK_iff]
    intro i k hi hk h1 h2 h3
    have hs : Same (part a) i k := (part_same (by omega) (by omega)).2 (by rw [lget_nat, lget_nat]; exact h3)
    rcases hs with h | ⟨c, hc, hic, hkc⟩
    · omega
    · have e1 := hKiff c hc _ hic
      have e2 := hKiff c hc _ hkc
      rw [Int.toNat_natCast] at e1 e2
      rw [e1] at h1
      rw [e2] at h2
      have e3 : lab1 b (i : Int) = lab1 b (k : Int) := by rw [of_decide_eq_true h1, of_decide_eq_true h2]
      rw [lab1_iff (by omega) (by omega), lget_nat, lget_nat] at e3
      exact e3
  · have e1 : ∀ c ∈ grpF a, ((goneL K c).length : Int) = (c.length : Int) - maxc (c.map (lab1 b)) := fun c hc => by
      have hs := len_split (c := c) (p := fun i => K i.toNat)
      have e2 : (c.filter fun i => K i.toNat) = c.filter fun i => decide (lab1 b i = best c) := List.filter_congr fun i hi => hKiff c hc i hi
      rw [e2, ← count_map] at hs
      have := hb c hc
      unfold goneL
      omega
    have l1 := remS_le (b := b) (K := K) (cs := grpF a) fun c hc => by have := e1 c hc; omega
    have l2 := remS_ge (b := b) (K := K) (cs := grpF a) fun c hc => by have := e1 c hc; omega
    have e3 : remS b (grpF a) = ((goneL K (grpF a).flatten).length : Int) := by rw [gone_flat]; omega
    rw [e3, ← gone_map]
    have s1 : (goneL K ((List.range a.length).map fun (k : Nat) => (k : Int))).length ≤ (goneL K (grpF a).flatten).length := by
      refine List.Nodup.length_le_of_subset (List.Pairwise.filter _ (nodup_map_cast List.nodup_range)) ?_
      intro i hi
      have hi := List.mem_filter.1 hi
      refine List.mem_filter.2 ⟨?_, hi.2⟩
      false_or_by_contra
      rename_i hout
      have h2 : K i.toNat = true := by
        show ((grpF a).all fun c => !decide (((i.toNat : Nat) : Int) ∈ c) || decide (lab1 b ((i.toNat : Nat) : Int) = best c)) = true
        obtain ⟨k, _, rfl⟩ := List.mem_map.1 hi.1
        rw [List.all_eq_true]
        intro c hc
        have : ((k : Nat) : Int) ∉ c := fun h => hout (List.mem_flatten.2 ⟨c, hc, h⟩)
        simp [this]
      have h3 := hi.2
      rw [h2] at h3
      cases h3
    have s2 : (goneL K (grpF a).flatten).length ≤ (goneL K ((List.range a.length).map fun (k : Nat) => (k : Int))).length := by
      refine List.Nodup.length_le_of_subset (List.Pairwise.filter _ hcp.flat) ?_
      intro i hi
      have hi := List.mem_filter.1 hi
      obtain ⟨c, hc, hic⟩ := List.mem_flatten.1 hi.1
      have := hcp.inn c hc i hic
      exact List.mem_filter.2 ⟨List.mem_map.2 ⟨i.toNat, by simp; omega, by omega⟩, hi.2⟩
    omega
end
end Go.Own

namespace Go.Own
theorem Small_of {p : api_Partition} (h : ok_api_Partition p) : Small p := Small_of_ok ⟨h.2.1, fun c hc => (h.2.2 c hc).1⟩
namespace drosslaw08_PartitionRemoval
theorem again {φ : Bool → Prop} (h : φ true) : L1 φ := L1_step φ ⟨true, drosslaw08_awake.spec, h⟩
theorem spec (x0 x1 : api_Partition) (h0 : Small x0) (h1 : Small x1) : C x0 x1 true := by
  obtain ⟨r, h1, h2⟩ := enter x0 x1 (fun r => r = true) (by
    refine ⟨true, drosslaw08_awake.spec, ?_⟩
    rw [if_pos rfl]
    refine ⟨_, drossref08_Few.spec h0, ?_⟩
    split
    · refine ⟨_, drossref08_Few.spec h1, ?_⟩
      split
      · refine ⟨_, partition_Removal.spec h0 h1, _, drossref08_Removal.spec h0 h1, ?_⟩
        rw [if_pos rfl]
        simp
      · exact again rfl
    · exact again rfl)
  subst h1; exact h2
theorem law {xs : List D} (hx : TyAll env.P 4 [31, 31] xs) : Ret env 7 xs (.lit (.bool true)) [] :=
  drosslaw08_PartitionRemoval_of (fun x0 x1 h0 h1 => spec x0 x1 (Small_of h0) (Small_of h1)) hx
end drosslaw08_PartitionRemoval
end Go.Own

namespace Go.Own
namespace drosslaw08_PartitionLeast
def Kp (keep : Nat) (i : Nat) : Bool := keep.testBit i
theorem inner {a b : List Int} {r : Int × Int} {best g : Int} {keep i : Nat} {base : Bool} {φ : Bool → Prop} (ha : a.length ≤ 10) (hl : a.length = b.length) (hk : keep < 2 ^ a.length) (hi : i < a.length) (hKi : keep.testBit i = true)
    (h : L6 (a, b) r best keep (base && (List.range i).all fun k => okP a b (Kp keep) i k) g i φ) : ∀ (m k : Nat), k + m = i →
    L4 (a, b) r best keep (base && (List.range k).all fun k => okP a b (Kp keep) i k) g i k φ
  | 0, k, hm => by
    apply L4_step
    have : k = i := by omega
    subst this
    rw [if_neg (by omega)]
    exact h
  | m + 1, k, hm => by
    apply L4_step
    rw [if_pos (by omega)]
    refine ⟨by omega, ?_⟩
    have hk2 : keep < 2 ^ top .i64 := Nat.lt_of_lt_of_le hk (Nat.pow_le_pow_right (by decide) (by simp only [top]; omega))
    have ih := inner ha hl hk hi hKi h m (k + 1) (by omega)
    rw [List.range_succ, List.all_append] at ih
    have next : ∀ f, f = (base && (((List.range k).all fun k => okP a b (Kp keep) i k) && ([k].all fun k => okP a b (Kp keep) i k))) → L5 (a, b) r best keep f g i k φ := by
      rintro _ rfl
      apply L5_step
      rw [wrap_succ (by omega)]
      exact ih
    have a1 : a[i]? = some a[i] := List.getElem?_eq_getElem hi
    have a2 : a[k]? = some (a[k]'(by omega)) := List.getElem?_eq_getElem (by omega)
    have b1 : b[i]? = some (b[i]'(by omega)) := List.getElem?_eq_getElem (by omega)
    have b2 : b[k]? = some (b[k]'(by omega)) := List.getElem?_eq_getElem (by omega)
    split
    · rename_i hb
      rw [bit_eq1 hk2 (by decide)] at hb
      refine ⟨_, by rw [lget_nat]; exact a1, _, by rw [lget_nat]; exact a2, ?_⟩
      split
      · rename_i he
        refine ⟨_, by rw [lget_nat]; exact b1, _, by rw [lget_nat]; exact b2, ?_⟩
        split
        · rename_i hf
          refine next _ ?_
          simp [okP, Kp, hKi, hb, a1, a2, b1, b2, he, hf]
        · rename_i hf
          refine next _ ?_
          simp [okP, Kp, hKi, hb, a1, a2, b1, b2, he, hf]
      · rename_i he
        refine next _ ?_
        simp [okP, a1, a2, he]
    · rename_i hb
      rw [bit_eq1 hk2 (by decide)] at hb
      refine next _ ?_
      simp [okP, Kp, hb]
theorem mid {a b : List Int} {r : Int × Int} {best : Int} {keep : Nat} {φ : Bool → Prop} (ha : a.length ≤ 10) (hl : a.length = b.length) (hk : keep < 2 ^ a.length)
    (h : L7 (a, b) r (if okK a b (Kp keep) a.length then min best (gone (Kp keep) a.length) else best) keep φ) : ∀ (m i : Nat), i + m = a.length →
    L3 (a, b) r best keep (okK a b (Kp keep) i) (gone (Kp keep) i) i φ
  | 0, i, hm => by
    apply L3_step
    have : i = a.length := by omega
    subst this
    rw [if_neg (by simp)]
    split
    · rename_i hh
      rw [if_pos hh] at h
      rw [imin_eq]; exact h
    · rename_i hh
      rw [if_neg hh] at h
      exact h
  | m + 1, i, hm => by
    apply L3_step
    rw [if_pos (by simp only; omega)]
    refine ⟨by omega, ?_⟩
    have hk2 : keep < 2 ^ top .i64 := Nat.lt_of_lt_of_le hk (Nat.pow_le_pow_right (by decide) (by simp only [top]; omega))
    have ih := mid ha hl hk h m (i + 1) (by omega)
    rw [gone_succ] at ih
    have e : okK a b (Kp keep) (i + 1) = (okK a b (Kp keep) i && (List.range i).all fun k => okP a b (Kp keep) i k) := by
      unfold okK
      rw [List.range_succ, List.all_append]
      simp
    rw [e] at ih
    have hg : (gone (Kp keep) i) ≤ i := gone_le
    split
    · rename_i hb
      rw [bit_eq0 hk2 (by decide)] at hb
      apply L6_step
      have hb' : Kp keep i = false := hb
      have e2 : ((List.range i).all fun k => okP a b (Kp keep) i k) = true := by
        rw [List.all_eq_true]; intro k _; simp [okP, hb']
      rw [e2, Bool.and_true, hb', if_neg (by simp)] at ih
      rw [wrap_succ (by omega), wrap_succ (by omega)]
      exact ih
    · rename_i hb
      rw [bit_eq0 hk2 (by decide)] at hb
      have hb' : keep.testBit i = true := by simpa using hb
      have := inner (a := a) (b := b) (r := r) (best := best) (g := gone (Kp keep) i) (keep := keep) (i := i) (base := okK a b (Kp keep) i) (φ := φ) ha hl hk (by omega) hb' (by
        apply L6_step
        rw [wrap_succ (by omega)]
        have hb'' : Kp keep i = true := hb'
        rw [hb'', if_pos rfl, Nat.add_zero] at ih
        exact ih) i 0 (by omega)
      simpa using this
theorem outer {a b : List Int} {R : Nat} {φ : Bool → Prop} (ha : a.length ≤ 10) (hl : a.length = b.length) (hlow : ∀ keep, okK a b (Kp keep) a.length = true → R ≤ gone (Kp keep) a.length) (ht : φ true) : ∀ (m keep best : Nat), keep + m = 2 ^ a.length → R ≤ best → (best = R ∨ ∃ k, keep ≤ k ∧ k < 2 ^ a.length ∧ okK a b (Kp k) a.length = true ∧ gone (Kp k) a.length = R) →
    L2 (a, b) ((R : Int), 0) best keep φ
  | m, keep, best, hm, h1, h2 => by
    apply L2_step
    refine ⟨by omega, ?_⟩
    have hs : shlw .i64 1 (a.length : Int) = ((2 ^ a.length : Nat) : Int) := shl1_nat (by simp only [top]; omega)
    simp only [hs]
    match m, hm with
    | 0, hm =>
      rw [if_neg (by omega), if_pos trivial]
      have : best = R := by
        rcases h2 with h | ⟨k, h3, h4, _⟩
        · exact h
        · omega
      subst this
      simpa using ht
    | m + 1, hm =>
      rw [if_pos (by omega)]
      have hkl : keep < 2 ^ a.length := by omega
      have hp : 2 ^ a.length ≤ 2 ^ 10 := Nat.pow_le_pow_right (by decide) ha
      have := mid (a := a) (b := b) (r := ((R : Int), 0)) (best := best) (keep := keep) (φ := φ) ha hl hkl (by
        apply L7_step
        rw [wrap_succ (by omega)]
        have e : (if okK a b (Kp keep) a.length = true then min (best : Int) (gone (Kp keep) a.length) else best) = ((if okK a b (Kp keep) a.length = true then min best (gone (Kp keep) a.length) else best : Nat) : Int) := by
          split <;> omega
        rw [e]
        refine outer ha hl hlow ht m (keep + 1) _ (by omega) ?_ ?_
        · split
          · rename_i hh
            have := hlow keep hh
            omega
          · exact h1
        · rcases h2 with h | ⟨k, h3, h4, h5, h6⟩
          · left
            subst h
            split
            · rename_i hh
              have := hlow keep hh
              omega
            · rfl
          · by_cases hkk : k = keep
            · subst hkk
              left
              rw [if_pos h5]; omega
            · right
              exact ⟨k, by omega, h4, h5, h6⟩) a.length 0 (by omega)
      have e1 : okK a b (Kp keep) 0 = true := rfl
      have e2 : gone (Kp keep) 0 = 0 := rfl
      rw [e1, e2] at this
      exact this
theorem again {φ : Bool → Prop} (h : φ true) : L1 φ := L1_step φ ⟨true, drosslaw08_awake.spec, h⟩
theorem spec {a b : List Int} (ra : ∀ x ∈ a, 0 ≤ x ∧ x < 256) (rb : ∀ x ∈ b, 0 ≤ x ∧ x < 256) : C (a, b) true := by
  obtain ⟨r, h1, h2⟩ := enter (a, b) (fun r => r = true) (by
    refine ⟨true, drosslaw08_awake.spec, ?_⟩
    rw [if_pos rfl]
    split
    · exact again rfl
    · rename_i hn
      split
      · rename_i hl
        simp only at hn hl
        have ha : a.length ≤ 10 := by omega
        have hl : a.length = b.length := by omega
        refine ⟨_, drossref08_From.spec (show a.length ≤ 10000 by omega) ra, _, drossref08_From.spec (show b.length ≤ 10000 by omega) rb, ?_⟩
        refine ⟨_, partition_Removal.spec (part_small (l := a) (by omega)) (part_small (l := b) (by omega)), ?_⟩
        have va := part_valid (l := a) (by omega)
        have vb := part_valid (l := b) (by omega)
        have hb : bothF (part a) (part b) = 0 := by
          simp only [bothF, va, vb]
          simp [part, hl]
        have hrem : remS (labF (part b)) (grpF a) = remS b (grpF a) := remS_eq fun c hc i hi j hj => by
          have h1 := (part_CP (l := a)).inn c hc i hi
          have h2 := (part_CP (l := a)).inn c hc j hj
          have hr : (part b).Rows = (b.length : Int) := rfl
          rw [lab1_iff (by rw [labF_len, hr]; omega) (by rw [labF_len, hr]; omega), labF_same vb (by rw [hr]; omega) (by rw [hr]; omega), part_same (by omega) (by omega), lab1_iff (by omega) (by omega)]
        have e : removalF (part a) (part b) = (remS b (grpF a), 0) := by
          unfold removalF
          rw [if_pos hb]
          exact congrArg (·, (0 : Int)) hrem
        show L2 (a, b) (removalF (part a) (part b)) _ 0 _
        rw [e]
        obtain ⟨K, k1, k2⟩ := least_upper hl
        rw [← k2]
        have hlow : ∀ keep, okK a b (Kp keep) a.length = true → gone K a.length ≤ gone (Kp keep) a.length := fun keep hk => by
          have := least_lower hl hk
          omega
        have hsame : ∀ i, i < a.length → Kp (ofBits K a.length) i = K i := fun i hi => by
          unfold Kp
          rw [ofBits_bit]; simp [hi]
        have := outer (φ := fun r => r = true) ha hl hlow rfl (2 ^ a.length) 0 a.length (by omega) gone_le (.inr ⟨ofBits K a.length, by omega, ofBits_lt _, ?_, ?_⟩)
        · exact this
        · rw [okK_iff] at k1 ⊢
          intro i k hi hk
          rw [hsame i hi, hsame k (by omega)]
          exact k1 i k hi hk
        · unfold gone
          congr 1
          refine List.filter_congr fun i hi => ?_
          rw [hsame i (by simpa using hi)]
      · exact again rfl)
  subst h1; exact h2
theorem law {xs : List D} (hx : TyAll env.P drosslaw08_PartitionLeast_K drosslaw08_PartitionLeast_T xs) : Ret env drosslaw08_PartitionLeast_F xs (.lit (.bool true)) [] :=
  drosslaw08_PartitionLeast_of (fun x0 h => spec (fun x hx => u8_of (h.1.2 x hx)) (fun x hx => u8_of (h.2.2 x hx))) hx
end drosslaw08_PartitionLeast
end Go.Own
