/- What the functions that the law reaches answer. No conditions. -/
import Derived.Test.YtdlkdimkhmpkkaaDoorAttrsetOfLaw4
import Derived.Test.YtdlkdimkhmpkkaaDoorAttrsetOfLaw7
set_option linter.all false

namespace Go.Own
namespace attrset_Members
theorem loop {φ : List Int → Prop} : ∀ (n : Nat) (acc : List Int), n < 2 ^ 32 → acc.length + (bitsOf n).length ≤ 1000 → φ (acc ++ (bitsOf n).map fun (i : Nat) => (i : Int)) → L1 n acc φ := by
  intro n
  induction n using Nat.strongRecOn with
  | _ n ih =>
    intro acc hn hl h
    apply L1_step
    by_cases h0 : n = 0
    · subst h0
      rw [bitsOf_zero] at h
      rw [if_pos (by omega)]; simpa using h
    · rw [if_neg (by omega)]
      rw [bitsOf_cons h0 hn] at hl h
      simp only [List.length_cons] at hl
      refine ⟨by omega, by omega, ?_⟩
      have e1 : IntKind.wrap .u32 ((n : Int) - 1) = ((n - 1 : Nat) : Int) := by
        have : (n : Int) - 1 = ((n - 1 : Nat) : Int) := by omega
        rw [this]
        exact wrap_top (k := .u32) (by simp only [top]; omega)
      rw [e1, bAnd_nat (k := .u32) (by simpa [top] using hn) (by simp only [top]; omega)]
      refine ih _ (clear_lt h0) _ (Nat.lt_of_le_of_lt Nat.and_le_left hn) (by rw [List.length_append, List.length_singleton]; omega) ?_
      have e2 : tz32 (n : Int) = ((lowest n 32 0 : Nat) : Int) := by unfold tz32; rw [Int.toNat_natCast]
      rw [e2]
      simpa using h
theorem spec {n : Nat} (hn : n < 2 ^ 32) : C n ((bitsOf n).map fun (i : Nat) => (i : Int)) := by
  obtain ⟨r, h1, h2⟩ := enter n (fun r => r = (bitsOf n).map fun (i : Nat) => (i : Int)) (loop n [] hn (by have := bitsOf_len (n := n); simp; omega) (by simp))
  rw [← h1]; exact h2
end attrset_Members
end Go.Own

namespace Go.Own
namespace drossref02_Full
theorem loop {k : Nat} {φ : Int → Prop} (h : φ (fullN k)) : ∀ (m i : Nat), i + m = min k 32 → L1 k ((2 ^ i - 1 : Nat) : Int) i φ
  | 0, i, hi => by
    apply L1_step
    have e : ((2 ^ i - 1 : Nat) : Int) = (fullN k : Int) := by unfold fullN; rw [← hi, Nat.add_zero]
    rw [e]
    split
    · rw [if_neg (by omega)]; exact h
    · exact h
  | m + 1, i, hi => by
    apply L1_step
    rw [if_pos (by omega), if_pos (by omega)]
    refine ⟨by omega, ?_⟩
    have hp : 2 ^ (i + 1) ≤ 2 ^ 32 := Nat.pow_le_pow_right (by decide) (by omega)
    have h2 : 0 < 2 ^ i := Nat.pos_of_ne_zero (by simp)
    rw [Nat.pow_succ] at hp
    rw [shl1_nat (k := .u32) (by simp only [top]; omega), bOr_nat (k := .u32) (by simp only [top]; omega) (by simp only [top]; omega), wrap_succ (by omega)]
    have e : (2 ^ i - 1) ||| 2 ^ i = 2 ^ (i + 1) - 1 := by
      apply Nat.eq_of_testBit_eq
      intro j
      rw [Nat.testBit_or, Nat.testBit_two_pow_sub_one, Nat.testBit_two_pow, Nat.testBit_two_pow_sub_one]
      by_cases h1 : j < i
      · have : j < i + 1 := by omega
        simp [h1, this]
      · by_cases h3 : i = j
        · subst h3; simp
        · have : ¬ j < i + 1 := by omega
          simp [h1, h3, this]
    rw [e]
    exact loop h m (i + 1) (by omega)
theorem spec {k : Nat} : C k (fullN k) := by
  obtain ⟨r, h1, h2⟩ := enter k (fun r => r = (fullN k : Int)) (loop (φ := fun r => r = (fullN k : Int)) rfl (min k 32) 0 (by omega))
  rw [← h1]; exact h2
end drossref02_Full
end Go.Own

namespace Go.Own
namespace drossref02_Has
theorem spec {n i : Nat} (hn : n < 2 ^ 32) : C n i (n.testBit i) := by
  obtain ⟨r, h1, h2⟩ := enter n i (fun r => r = n.testBit i) (by
    rw [if_pos (by omega)]
    split
    · refine ⟨by omega, ?_⟩
      rw [bit_nat (k := .u32) (by simpa [top] using hn) (by decide)]
      cases n.testBit i <;> rfl
    · rw [Nat.testBit_lt_two_pow (Nat.lt_of_lt_of_le hn (Nat.pow_le_pow_right (by decide) (by omega)))])
  rw [← h1]; exact h2
end drossref02_Has
end Go.Own


namespace Go.Own
theorem drossref02_Members.spec {n : Nat} (hn : n < 2 ^ 32) : drossref02_Members.C n ((bitsOf n).map fun (i : Nat) => (i : Int)) := by
  obtain ⟨r, h1, h2⟩ := drossref02_Members.enter n (fun r => r = (bitsOf n).map fun (i : Nat) => (i : Int)) (by
    have : ∀ (m k : Nat), 32 - k ≤ m → k ≤ 32 → drossref02_Members.L1 n (((List.range k).filter fun i => n.testBit i).map fun (i : Nat) => (i : Int)) k (fun r => r = (bitsOf n).map fun (i : Nat) => (i : Int)) := by
      intro m
      induction m with
      | zero =>
        intro k hm hk
        apply drossref02_Members.L1_step
        rw [if_neg (by omega)]
        have e : k = 32 := by omega
        subst e; rfl
      | succ m ih =>
        intro k hm hk
        apply drossref02_Members.L1_step
        by_cases hlt : k < 32
        · rw [if_pos (by omega)]
          refine ⟨_, drossref02_Has.spec hn, ?_⟩
          have hlen : (((List.range k).filter fun i => n.testBit i).map fun (i : Nat) => (i : Int)).length ≤ 32 := by
            rw [List.length_map]
            exact Nat.le_trans (List.length_filter_le _ _) (by simp; omega)
          have := ih (k + 1) (by omega) (by omega)
          rw [List.range_succ, List.filter_append, List.map_append] at this
          by_cases hb : n.testBit k = true
          · rw [if_pos hb]
            refine ⟨by omega, ?_⟩
            apply drossref02_Members.L2_step
            rw [wrap_succ (by omega)]
            simpa [hb] using this
          · rw [if_neg hb]
            apply drossref02_Members.L2_step
            rw [wrap_succ (by omega)]
            simpa [hb] using this
        · rw [if_neg (by omega)]
          have e : k = 32 := by omega
          subst e; rfl
    exact this 32 0 (by omega) (by omega))
  rw [← h1]; exact h2
end Go.Own

namespace Go.Own
def ofF : List Int → Int → Int × Int
  | [], s => (s, 0)
  | a :: r, s => if a < 0 then (0, 7) else if 16 ≤ a then (0, 7) else ofF r (bOr .u32 s (shlw .u32 1 a))
theorem attrset_Of.spec {l : List Int} (hl : l.length < 9223372036854775807) : attrset_Of.C l (ofF l 0) := by
  obtain ⟨r, h1, h2⟩ := attrset_Of.enter l (fun r => r = ofF l 0) (by
    have : ∀ (r : List Int) (k : Nat) (s : Int), l.drop k = r → ofF r s = ofF l 0 → attrset_Of.L1 l s k (fun r => r = ofF l 0) := by
      intro r
      induction r with
      | nil =>
        intro k s hd he
        apply attrset_Of.L1_step
        have := drop_ge hd
        rw [if_neg (by omega)]; exact he
      | cons a r ih =>
        intro k s hd he
        have hlt := drop_lt hd
        apply attrset_Of.L1_step
        rw [if_pos (by omega)]
        refine ⟨a, lget_drop hd, ?_⟩
        have e0 : ofF (a :: r) s = if a < 0 then (0, 7) else if 16 ≤ a then (0, 7) else ofF r (bOr .u32 s (shlw .u32 1 a)) := rfl
        rw [e0] at he
        by_cases h1 : a < 0
        · rw [if_pos h1] at he ⊢; exact he
        · rw [if_neg h1] at he ⊢
          by_cases h2 : 16 ≤ a
          · rw [if_pos h2] at he ⊢; exact he
          · rw [if_neg h2] at he ⊢
            refine ⟨by omega, ?_⟩
            rw [wrap_succ (by omega)]
            exact ih _ _ (drop_next hd) he
    exact this l 0 0 rfl rfl)
  rw [← h1]; exact h2
theorem drossref02_Of.spec {l : List Int} (hl : l.length < 9223372036854775807) : drossref02_Of.C l (ofF l 0) := by
  obtain ⟨r, h1, h2⟩ := drossref02_Of.enter l (fun r => r = ofF l 0) (by
    have : ∀ (r : List Int) (k : Nat) (s : Int), l.drop k = r → ofF r s = ofF l 0 → drossref02_Of.L1 l s k (fun r => r = ofF l 0) := by
      intro r
      induction r with
      | nil =>
        intro k s hd he
        apply drossref02_Of.L1_step
        have := drop_ge hd
        rw [if_neg (by omega)]; exact he
      | cons a r ih =>
        intro k s hd he
        have hlt := drop_lt hd
        apply drossref02_Of.L1_step
        rw [if_pos (by omega)]
        refine ⟨a, lget_drop hd, ?_⟩
        have e0 : ofF (a :: r) s = if a < 0 then (0, 7) else if 16 ≤ a then (0, 7) else ofF r (bOr .u32 s (shlw .u32 1 a)) := rfl
        rw [e0] at he
        by_cases h1 : a < 0
        · rw [if_pos h1] at he ⊢; exact he
        · rw [if_neg h1] at he ⊢
          by_cases h2 : 16 ≤ a
          · rw [if_pos h2] at he ⊢; exact he
          · rw [if_neg h2] at he ⊢
            refine ⟨by omega, ?_⟩
            rw [wrap_succ (by omega)]
            exact ih _ _ (drop_next hd) he
    exact this l 0 0 rfl rfl)
  rw [← h1]; exact h2
theorem slices_Equal_sint_int.spec {l m : List Int} (hl : l.length < 9223372036854775807) : slices_Equal_sint_int.C l m (decide (l = m)) := by
  obtain ⟨r, h1, h2⟩ := slices_Equal_sint_int.enter l m (fun r => r = decide (l = m)) (by
    by_cases hlm : l.length = m.length
    · rw [if_pos (by omega)]
      refine same_loop hlm (L := fun i => slices_Equal_sint_int.L1 l m i _) (φ := fun r => r = decide (l = m)) ?_ ?_ rfl
      · intro h; apply slices_Equal_sint_int.L1_step; rw [if_neg (by omega)]; exact h
      · intro k a b ha hb hk h
        apply slices_Equal_sint_int.L1_step
        rw [if_pos (by omega)]
        refine ⟨a, lget_of ha, b, lget_of hb, ?_⟩
        rw [wrap_succ (by omega)]; exact h
    · rw [if_neg (by omega)]
      have : ¬ l = m := fun h => hlm (by rw [h])
      simp [this])
  rw [← h1]; exact h2
end Go.Own

namespace Go.Own
def pop8 (m : Nat) : Nat := ((List.range 8).filter fun i => m.testBit i).length
theorem filter_shift {n k : Nat} : ((List.range 8).map (· + k)).filter (fun i => n.testBit i) = ((List.range 8).filter fun i => (n / 2 ^ k % 256).testBit i).map (· + k) := by
  rw [List.filter_map]
  congr 1
  refine List.filter_congr fun i hi => ?_
  have hi := List.mem_range.1 hi
  simp only [Function.comp]
  rw [show (256 : Nat) = 2 ^ 8 from rfl, Nat.testBit_mod_two_pow, Nat.testBit_div_two_pow]
  simp [hi]
theorem szN_bytes (n : Nat) : szN n = pop8 (n % 256) + pop8 (n / 2 ^ 8 % 256) + pop8 (n / 2 ^ 16 % 256) + pop8 (n / 2 ^ 24 % 256) := by
  have e : List.range 32 = (List.range 8).map (· + 0) ++ (List.range 8).map (· + 8) ++ (List.range 8).map (· + 16) ++ (List.range 8).map (· + 24) := by decide
  unfold szN bitsOf pop8
  rw [e, List.filter_append, List.filter_append, List.filter_append, filter_shift, filter_shift, filter_shift, filter_shift]
  simp only [List.length_append, List.length_map, Nat.pow_zero, Nat.div_one]
theorem szN_le {n : Nat} : szN n ≤ 32 := bitsOf_len
theorem and255 (a : Nat) : a &&& 255 = a % 256 := Nat.and_two_pow_sub_one_eq_mod a 8
theorem pop8_le {m : Nat} : pop8 m ≤ 8 := by
  unfold pop8
  exact Nat.le_trans (List.length_filter_le _ _) (by simp)
theorem u8i_pop {m : Nat} : u8i (UInt8.ofNat (pop8 m)) = (pop8 m : Int) := by
  unfold u8i
  rw [UInt8.toNat_ofNat']
  have := pop8_le (m := m)
  omega
theorem math_bits_OnesCount32.spec {n : Nat} (hn : n < 2 ^ 32) : math_bits_OnesCount32.C n (szN n : Int) := by
  obtain ⟨r, h1, h2⟩ := math_bits_OnesCount32.enter n (fun r => r = (szN n : Int)) (by
    have ht : n < 2 ^ top .u32 := by simpa [top] using hn
    have e24 := shrw_nat (k := .u32) (a := n) (i := 24) ht
    have e16 := shrw_nat (k := .u32) (a := n) (i := 16) ht
    have e8 := shrw_nat (k := .u32) (a := n) (i := 8) ht
    rw [show ((24 : Nat) : Int) = 24 from rfl] at e24
    rw [show ((16 : Nat) : Int) = 16 from rfl] at e16
    rw [show ((8 : Nat) : Int) = 8 from rfl] at e8
    have a255 : ∀ a : Nat, a < 2 ^ 32 → bAnd .u32 (a : Int) 255 = ((a % 256 : Nat) : Int) := fun a ha => by
      have := bAnd_nat (k := .u32) (a := a) (b := 255) (by simpa [top] using ha) (by simp only [top]; omega)
      rw [show ((255 : Nat) : Int) = 255 from rfl] at this
      rw [this, and255]
    rw [e24, e16, e8, a255 _ (Nat.lt_of_le_of_lt (Nat.div_le_self _ _) hn), a255 _ (Nat.lt_of_le_of_lt (Nat.div_le_self _ _) hn), a255 _ hn]
    have h24 : n / 2 ^ 24 < 256 := by omega
    have em : n / 2 ^ 24 = n / 2 ^ 24 % 256 := (Nat.mod_eq_of_lt h24).symm
    have hs := szN_bytes n
    rw [em]
    have m1 : n / 2 ^ 24 % 256 < 256 := Nat.mod_lt _ (by omega)
    have m2 : n / 2 ^ 16 % 256 < 256 := Nat.mod_lt _ (by omega)
    have m3 : n / 2 ^ 8 % 256 < 256 := Nat.mod_lt _ (by omega)
    have m4 : n % 256 < 256 := Nat.mod_lt _ (by omega)
    generalize n / 2 ^ 24 % 256 = q1 at *
    generalize n / 2 ^ 16 % 256 = q2 at *
    generalize n / 2 ^ 8 % 256 = q3 at *
    generalize n % 256 = q4 at *
    clear hn ht e24 e16 e8 a255 h24 em
    refine ⟨UInt8.ofNat (pop8 q1), ⟨by omega, ?_⟩, UInt8.ofNat (pop8 q2), ⟨by omega, ?_⟩, UInt8.ofNat (pop8 q3), ⟨by omega, ?_⟩, UInt8.ofNat (pop8 q4), ⟨by omega, ?_⟩, ?_⟩
    · rw [Int.toNat_natCast]
      clear hs m2 m3 m4
      revert q1
      decide +kernel
    · rw [Int.toNat_natCast]
      clear hs m1 m3 m4
      revert q2
      decide +kernel
    · rw [Int.toNat_natCast]
      clear hs m1 m2 m4
      revert q3
      decide +kernel
    · rw [Int.toNat_natCast]
      clear hs m1 m2 m3
      revert q4
      decide +kernel
    · rw [u8i_pop, u8i_pop, u8i_pop, u8i_pop]
      have b1 := pop8_le (m := q1)
      have b2 := pop8_le (m := q2)
      have b3 := pop8_le (m := q3)
      have b4 := pop8_le (m := q4)
      have w8 : ∀ a b : Nat, a + b < 256 → IntKind.wrap .u8 ((a : Int) + (b : Int)) = ((a + b : Nat) : Int) := fun a b h => by
        rw [show (a : Int) + (b : Int) = ((a + b : Nat) : Int) by omega]
        exact wrap_top (k := .u8) (by simpa [top] using h)
      rw [w8 _ _ (by omega), w8 _ _ (by omega), w8 _ _ (by omega), hs]
      have : pop8 q1 + pop8 q2 + pop8 q3 + pop8 q4 = pop8 q4 + pop8 q3 + pop8 q2 + pop8 q1 := by omega
      rw [this]
      exact wrap_id (by omega) (by omega))
  rw [← h1]; exact h2
theorem attrset_Size.spec {x : Int} (hx : U32 x) : attrset_Size.C x (szN (sN x) : Int) := by
  have := math_bits_OnesCount32.spec hx.lt
  rw [← hx.eq] at this
  obtain ⟨r, h1, h2⟩ := attrset_Size.enter x (fun r => r = (szN (sN x) : Int)) ⟨_, this, rfl⟩
  rw [← h1]; exact h2
end Go.Own
