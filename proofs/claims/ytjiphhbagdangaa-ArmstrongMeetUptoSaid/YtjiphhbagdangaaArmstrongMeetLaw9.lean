/- What the functions that the law reaches answer. No conditions. -/
import Derived.Test.YtjiphhbagdangaaArmstrongMeetLaw2
import Derived.Test.YtjiphhbagdangaaArmstrongMeetLaw4
import Derived.Test.YtjiphhbagdangaaArmstrongMeetLaw6
set_option linter.all false

namespace Go.Own
theorem drossref02_Sub.spec {a b : Nat} (ha : a < 2 ^ 32) (hb : b < 2 ^ 32) : drossref02_Sub.C a b (decide (a &&& b = a)) := by
  obtain ⟨r, h1, h2⟩ := drossref02_Sub.enter a b (fun r => r = decide (a &&& b = a)) (by
    rw [bAnd_nat (k := .u32) (by simpa [top] using ha) (by simpa [top] using hb)]
    by_cases h : a &&& b = a
    · simp [h]
    · have : ¬ ((a &&& b : Nat) : Int) = (a : Int) := by omega
      simp [h, this])
  rw [← h1]; exact h2
end Go.Own

namespace Go.Own
namespace drossref02_Full
theorem loop {k : Nat} {φ : Int → Prop} (h : φ (fullN k)) : ∀ (m i : Nat), i + m = min k 32 → L1 k ((2 ^ i - 1 : Nat) : Int) i φ
  | 0, i, hi => by
    apply L1_step
    have e : ((2 ^ i - 1 : Nat) : Int) = (fullN k : Int) := by unfold fullN; rw [← hi, Nat.add_zero]
    rw [e]
    split
    · rw [if_neg (by omega)]; exact h
    · exact h
  | m + 1, i, hi => by
    apply L1_step
    rw [if_pos (by omega), if_pos (by omega)]
    refine ⟨by omega, ?_⟩
    have hp : 2 ^ (i + 1) ≤ 2 ^ 32 := Nat.pow_le_pow_right (by decide) (by omega)
    have h2 : 0 < 2 ^ i := Nat.pos_of_ne_zero (by simp)
    rw [Nat.pow_succ] at hp
    rw [shl1_nat (k := .u32) (by simp only [top]; omega), bOr_nat (k := .u32) (by simp only [top]; omega) (by simp only [top]; omega), wrap_succ (by omega)]
    have e : (2 ^ i - 1) ||| 2 ^ i = 2 ^ (i + 1) - 1 := by
      apply Nat.eq_of_testBit_eq
      intro j
      rw [Nat.testBit_or, Nat.testBit_two_pow_sub_one, Nat.testBit_two_pow, Nat.testBit_two_pow_sub_one]
      by_cases h1 : j < i
      · have : j < i + 1 := by omega
        simp [h1, this]
      · by_cases h3 : i = j
        · subst h3; simp
        · have : ¬ j < i + 1 := by omega
          simp [h1, h3, this]
    rw [e]
    exact loop h m (i + 1) (by omega)
theorem spec {k : Nat} : C k (fullN k) := by
  obtain ⟨r, h1, h2⟩ := enter k (fun r => r = (fullN k : Int)) (loop (φ := fun r => r = (fullN k : Int)) rfl (min k 32) 0 (by omega))
  rw [← h1]; exact h2
end drossref02_Full
end Go.Own

namespace Go.Own
def FdOK (l : List api_FD) : Prop := ∀ d ∈ l, U32 d.Lhs ∧ U32 d.Rhs
def inU (n : Nat) (l r : Int) : Bool := decide (sN l < 2 ^ n) && decide (sN r < 2 ^ n)
theorem in_or {n : Nat} {l r : Int} (hl : U32 l) (hr : U32 r) : (shrw .u32 (bOr .u32 l r) (n : Int) = 0) ↔ inU n l r = true := by
  rw [hl.eq, hr.eq, bOr_nat hl.top hr.top, shrw_nat (Nat.or_lt_two_pow hl.top hr.top)]
  unfold inU
  rw [Bool.and_eq_true, decide_eq_true_iff, decide_eq_true_iff]
  have e1 : sN (sN l : Int) = sN l := by unfold sN; omega
  have e2 : sN (sN r : Int) = sN r := by unfold sN; omega
  rw [e1, e2, ← or_lt, ← div_zero]
  omega
theorem sub_full {a n : Nat} (ha : a < 2 ^ 32) (hn : n ≤ 32) : (a &&& fullN n = a) ↔ a < 2 ^ n := by
  rw [sub_iff, lt_iff]
  constructor
  · intro h i hi
    have := h i hi
    rw [fullN_bit, decide_eq_true_iff] at this
    omega
  · intro h i hi
    rw [fullN_bit, decide_eq_true_iff]
    have := h i hi
    omega
theorem sub_in {n : Nat} {x : Int} (hn : n ≤ 32) (hx : U32 x) : drossref02_Sub.C x (fullN n) (decide (sN x < 2 ^ n)) := by
  have := drossref02_Sub.spec (a := sN x) (b := fullN n) hx.lt fullN_lt
  rw [← hx.eq] at this
  have e : decide (sN x &&& fullN n = sN x) = decide (sN x < 2 ^ n) := by rw [decide_eq_decide]; exact sub_full hx.lt hn
  rw [e] at this; exact this
def fdsE (n : Int) (l : List api_FD) : Int := if n < 0 ∨ 16 < n then 7 else if 64 < l.length then 3 else if (l.all fun d => inU n.toNat d.Lhs d.Rhs) = true then 0 else 1
theorem all_goal {α : Type} {l : List α} {p : α → Bool} {L : Int → Prop} {φ : Int → Prop} (stop : φ 0 → L (l.length : Int))
    (step : ∀ (k : Nat) a, l[k]? = some a → k < l.length → (if p a = true then L ((k + 1 : Nat) : Int) else φ 1) → L k) (h : φ (if l.all p = true then 0 else 1)) : L 0 :=
  all_loop (l := l) (p := p) (L := L) (φ := fun b => φ (if b = true then 0 else 1)) (fun h => stop (by simpa using h)) (fun k a ha hk h => step k a ha hk (by simpa using h)) h
theorem closure_Valid.spec {n : Int} {l : List api_FD} (hl : FdOK l) : closure_Valid.C n l (fdsE n l) := by
  obtain ⟨r, h1, h2⟩ := closure_Valid.enter n l (fun r => r = fdsE n l) (by
    by_cases a : n < 0 ∨ 16 < n
    · have e : fdsE n l = 7 := if_pos a
      rw [e]
      by_cases b : n < 0
      · rw [if_pos b]
      · rw [if_neg b, if_pos (by omega)]
    · rw [if_neg (by omega), if_neg (by omega)]
      by_cases b : 64 < l.length
      · have e : fdsE n l = 3 := by unfold fdsE; rw [if_neg a, if_pos b]
        rw [e, if_pos (by omega)]
      · have e : fdsE n l = if (l.all fun d => inU n.toNat d.Lhs d.Rhs) = true then 0 else 1 := by unfold fdsE; rw [if_neg a, if_neg b]
        rw [e, if_neg (by omega)]
        · obtain ⟨m, rfl⟩ : ∃ m : Nat, n = m := ⟨n.toNat, by omega⟩
          refine all_goal (l := l) (p := fun d => inU m d.Lhs d.Rhs) (L := fun i => closure_Valid.L1 m l i _) (φ := fun r => r = _) ?_ ?_ rfl
          · intro h; apply closure_Valid.L1_step; rw [if_neg (by omega)]; exact h
          · intro k d hd hk h
            apply closure_Valid.L1_step
            rw [if_pos (by omega)]
            refine ⟨d, lget_of hd, by omega, ?_⟩
            have hd' := hl d (List.mem_of_getElem? hd)
            have e := in_or (n := m) hd'.1 hd'.2
            rw [wrap_succ (by omega)]
            split
            · rename_i hh; rw [if_pos (e.1 hh)] at h; exact h
            · rename_i hh; rw [if_neg (fun h3 => hh (e.2 h3))] at h; exact h)
  rw [← h1]; exact h2
theorem drossref09_Valid.spec {n : Int} {l : List api_FD} (hl : FdOK l) : drossref09_Valid.C n l (fdsE n l) := by
  obtain ⟨r, h1, h2⟩ := drossref09_Valid.enter n l (fun r => r = fdsE n l) (by
    by_cases a : n < 0 ∨ 16 < n
    · have e : fdsE n l = 7 := if_pos a
      rw [e]
      by_cases b : n < 0
      · rw [if_pos b]
      · rw [if_neg b, if_pos (by omega)]
    · rw [if_neg (by omega), if_neg (by omega)]
      by_cases b : 64 < l.length
      · have e : fdsE n l = 3 := by unfold fdsE; rw [if_neg a, if_pos b]
        rw [e, if_pos (by omega)]
      · have e : fdsE n l = if (l.all fun d => inU n.toNat d.Lhs d.Rhs) = true then 0 else 1 := by unfold fdsE; rw [if_neg a, if_neg b]
        rw [e, if_neg (by omega)]
        · obtain ⟨m, rfl⟩ : ∃ m : Nat, n = m := ⟨n.toNat, by omega⟩
          refine ⟨_, drossref02_Full.spec, ?_⟩
          refine all_goal (l := l) (p := fun d => inU m d.Lhs d.Rhs) (L := fun i => drossref09_Valid.L1 l (fullN m) i _) (φ := fun r => r = _) ?_ ?_ rfl
          · intro h; apply drossref09_Valid.L1_step; rw [if_neg (by omega)]; exact h
          · intro k d hd hk h
            apply drossref09_Valid.L1_step
            rw [if_pos (by omega)]
            have hd' := hl d (List.mem_of_getElem? hd)
            refine ⟨d, lget_of hd, _, sub_in (by omega) hd'.1, ?_⟩
            rw [wrap_succ (by omega)]
            unfold inU at h
            split
            · rename_i hh
              refine ⟨_, sub_in (by omega) hd'.2, ?_⟩
              split
              · rename_i h3; rw [if_pos (by rw [hh, h3]; rfl)] at h; exact h
              · rename_i h3; rw [if_neg (by rw [hh, Bool.true_and]; exact h3)] at h; exact h
            · rename_i hh; rw [if_neg (by rw [Bool.eq_false_iff.2 hh]; simp)] at h; exact h)
  rw [← h1]; exact h2
theorem fdsE_n {n : Int} {l : List api_FD} (h : fdsE n l = 0) : 0 ≤ n ∧ n ≤ 16 := by
  unfold fdsE at h
  split at h
  · cases h
  · omega
end Go.Own

namespace Go.Own
def passN : List api_FD → Nat → Nat
  | [], s => s
  | d :: l, s => passN l (if sN d.Lhs &&& s = sN d.Lhs then s ||| sN d.Rhs else s)
def passK (l : List api_FD) : Nat → Nat → Nat
  | 0, s => s
  | k + 1, s => passK l k (passN l s)
def cloN (l : List api_FD) (s : Nat) : Nat := passK l 33 s
def subN (a b : Nat) : Prop := ∀ i, a.testBit i = true → b.testBit i = true
theorem subN_refl (a : Nat) : subN a a := fun _ h => h
theorem subN_trans {a b c : Nat} (h : subN a b) (k : subN b c) : subN a c := fun i hi => k i (h i hi)
theorem subN_or {a b : Nat} : subN a (a ||| b) := fun i hi => by rw [Nat.testBit_or, hi]; rfl
theorem subN_anti {a b : Nat} (h : subN a b) (k : subN b a) : a = b := Nat.eq_of_testBit_eq fun i => by
  cases ha : a.testBit i with
  | true => exact (h i ha).symm
  | false =>
    cases hb : b.testBit i with
    | true => rw [k i hb] at ha; cases ha
    | false => rfl
theorem passN_up : ∀ {l : List api_FD} {s : Nat}, subN s (passN l s)
  | [], s => subN_refl s
  | d :: l, s => by
    rw [passN]
    split
    · exact subN_trans subN_or passN_up
    · exact passN_up
theorem passN_lt : ∀ {l : List api_FD} {s n : Nat}, s < 2 ^ n → (∀ d ∈ l, sN d.Rhs < 2 ^ n) → passN l s < 2 ^ n
  | [], _, _, h, _ => h
  | d :: l, s, n, h, hl => by
    rw [passN]
    refine passN_lt ?_ fun x hx => hl x (by simp [hx])
    split
    · exact Nat.or_lt_two_pow h (hl d (by simp))
    · exact h
def IsClo (l : List api_FD) (s : Nat) : Prop := ∀ d ∈ l, subN (sN d.Lhs) s → subN (sN d.Rhs) s
theorem passN_min : ∀ {l : List api_FD} {s c : Nat}, subN s c → IsClo l c → subN (passN l s) c
  | [], _, _, h, _ => h
  | d :: l, s, c, h, hc => by
    rw [passN]
    have hc' : IsClo l c := fun x hx => hc x (by simp [hx])
    split
    · rename_i hs
      refine passN_min (fun i hi => ?_) hc'
      rw [Nat.testBit_or, Bool.or_eq_true] at hi
      rcases hi with hi | hi
      · exact h i hi
      · exact hc d (by simp) (subN_trans (sub_iff.1 hs) h) i hi
    · exact passN_min h hc'
theorem passN_fix : ∀ {l : List api_FD} {s : Nat}, passN l s = s → IsClo l s
  | [], _, _ => fun d hd => by cases hd
  | d :: l, s, h => by
    rw [passN] at h
    have h1 : (if sN d.Lhs &&& s = sN d.Lhs then s ||| sN d.Rhs else s) = s := by
      refine subN_anti ?_ ?_
      · have := passN_up (l := l) (s := if sN d.Lhs &&& s = sN d.Lhs then s ||| sN d.Rhs else s)
        rw [h] at this; exact this
      · split
        · exact subN_or
        · exact subN_refl s
    rw [h1] at h
    intro x hx hs
    rcases List.mem_cons.1 hx with rfl | hx
    · rw [if_pos (sub_iff.2 hs)] at h1
      intro i hi
      rw [← h1, Nat.testBit_or, hi, Bool.or_true]
    · exact passN_fix h x hx hs
theorem clo_fix : ∀ {l : List api_FD} {s : Nat}, IsClo l s → passN l s = s := fun h =>
  subN_anti (passN_min (subN_refl _) h) passN_up
theorem passK_fix {l : List api_FD} {s : Nat} (h : passN l s = s) : ∀ k, passK l k s = s
  | 0 => rfl
  | k + 1 => by rw [passK, h]; exact passK_fix h k
theorem szN_lt {a b : Nat} (hs : subN a b) (hne : a ≠ b) (hb : b < 2 ^ 32) : szN a < szN b := by
  have hex : ∃ i, b.testBit i = true ∧ a.testBit i = false := by
    false_or_by_contra
    rename_i h
    refine hne (subN_anti hs fun i hi => ?_)
    cases ha : a.testBit i with
    | true => rfl
    | false => exact absurd ⟨i, hi, ha⟩ h
  obtain ⟨i, h1, h2⟩ := hex
  have hmem : i ∈ bitsOf b := (bitsOf_mem hb).2 h1
  have ha : a < 2 ^ 32 := by
    refine lt_iff.2 fun j hj => ?_
    exact lt_iff.1 hb j (hs j hj)
  have hsub : (bitsOf a).length + 1 ≤ (bitsOf b).length := by
    have hnd : (i :: bitsOf a).Nodup := by
      rw [List.nodup_cons]
      refine ⟨fun h => ?_, (bitsOf_sorted (n := a)).imp fun h => by omega⟩
      rw [bitsOf_mem ha, h2] at h; cases h
    have : (i :: bitsOf a) ⊆ bitsOf b := by
      intro x hx
      rcases List.mem_cons.1 hx with rfl | hx
      · exact hmem
      · exact (bitsOf_mem hb).2 (hs x ((bitsOf_mem ha).1 hx))
    exact hnd.length_le_of_subset this
  exact hsub
theorem passK_done {l : List api_FD} (hl : ∀ d ∈ l, sN d.Rhs < 2 ^ 32) : ∀ {k s : Nat}, s < 2 ^ 32 → 33 ≤ k + szN s → passN l (passK l k s) = passK l k s
  | 0, s, hs, hk => by have := bitsOf_len (n := s); unfold szN at hk; omega
  | k + 1, s, hs, hk => by
    rw [passK]
    by_cases h : passN l s = s
    · rw [h, passK_fix h, h]
    · have := szN_lt (passN_up (l := l)) (Ne.symm h) (passN_lt hs hl)
      exact passK_done hl (passN_lt hs hl) (by omega)
theorem passK_up {l : List api_FD} : ∀ {k s : Nat}, subN s (passK l k s)
  | 0, s => subN_refl s
  | k + 1, s => subN_trans passN_up passK_up
theorem passK_min {l : List api_FD} {c : Nat} (hc : IsClo l c) : ∀ {k s : Nat}, subN s c → subN (passK l k s) c
  | 0, _, h => h
  | k + 1, _, h => passK_min hc (k := k) (passN_min h hc)
theorem passK_lt {l : List api_FD} {n : Nat} (hl : ∀ d ∈ l, sN d.Rhs < 2 ^ n) : ∀ {k s : Nat}, s < 2 ^ n → passK l k s < 2 ^ n
  | 0, _, h => h
  | k + 1, _, h => passK_lt hl (k := k) (passN_lt h hl)
theorem cloN_up {l : List api_FD} {s : Nat} : subN s (cloN l s) := passK_up
theorem cloN_min {l : List api_FD} {s c : Nat} (h : subN s c) (hc : IsClo l c) : subN (cloN l s) c := passK_min hc h
theorem cloN_clo {l : List api_FD} {s : Nat} (hl : ∀ d ∈ l, sN d.Rhs < 2 ^ 32) (hs : s < 2 ^ 32) : IsClo l (cloN l s) := passN_fix (passK_done hl hs (by omega))
theorem cloN_lt {l : List api_FD} {n s : Nat} (hl : ∀ d ∈ l, sN d.Rhs < 2 ^ n) (hs : s < 2 ^ n) : cloN l s < 2 ^ n := passK_lt hl hs
theorem cloN_eq {l : List api_FD} {s : Nat} (h : IsClo l s) : cloN l s = s := passK_fix (clo_fix h) 33
end Go.Own

namespace Go.Own
def pop8 (m : Nat) : Nat := ((List.range 8).filter fun i => m.testBit i).length
theorem filter_shift {n k : Nat} : ((List.range 8).map (· + k)).filter (fun i => n.testBit i) = ((List.range 8).filter fun i => (n / 2 ^ k % 256).testBit i).map (· + k) := by
  rw [List.filter_map]
  congr 1
  refine List.filter_congr fun i hi => ?_
  have hi := List.mem_range.1 hi
  simp only [Function.comp]
  rw [show (256 : Nat) = 2 ^ 8 from rfl, Nat.testBit_mod_two_pow, Nat.testBit_div_two_pow]
  simp [hi]
theorem szN_bytes (n : Nat) : szN n = pop8 (n % 256) + pop8 (n / 2 ^ 8 % 256) + pop8 (n / 2 ^ 16 % 256) + pop8 (n / 2 ^ 24 % 256) := by
  have e : List.range 32 = (List.range 8).map (· + 0) ++ (List.range 8).map (· + 8) ++ (List.range 8).map (· + 16) ++ (List.range 8).map (· + 24) := by decide
  unfold szN bitsOf pop8
  rw [e, List.filter_append, List.filter_append, List.filter_append, filter_shift, filter_shift, filter_shift, filter_shift]
  simp only [List.length_append, List.length_map, Nat.pow_zero, Nat.div_one]
theorem szN_le {n : Nat} : szN n ≤ 32 := bitsOf_len
theorem and255 (a : Nat) : a &&& 255 = a % 256 := Nat.and_two_pow_sub_one_eq_mod a 8
theorem pop8_le {m : Nat} : pop8 m ≤ 8 := by
  unfold pop8
  exact Nat.le_trans (List.length_filter_le _ _) (by simp)
theorem u8i_pop {m : Nat} : u8i (UInt8.ofNat (pop8 m)) = (pop8 m : Int) := by
  unfold u8i
  rw [UInt8.toNat_ofNat']
  have := pop8_le (m := m)
  omega
theorem math_bits_OnesCount32.spec {n : Nat} (hn : n < 2 ^ 32) : math_bits_OnesCount32.C n (szN n : Int) := by
  obtain ⟨r, h1, h2⟩ := math_bits_OnesCount32.enter n (fun r => r = (szN n : Int)) (by
    have ht : n < 2 ^ top .u32 := by simpa [top] using hn
    have e24 := shrw_nat (k := .u32) (a := n) (i := 24) ht
    have e16 := shrw_nat (k := .u32) (a := n) (i := 16) ht
    have e8 := shrw_nat (k := .u32) (a := n) (i := 8) ht
    rw [show ((24 : Nat) : Int) = 24 from rfl] at e24
    rw [show ((16 : Nat) : Int) = 16 from rfl] at e16
    rw [show ((8 : Nat) : Int) = 8 from rfl] at e8
    have a255 : ∀ a : Nat, a < 2 ^ 32 → bAnd .u32 (a : Int) 255 = ((a % 256 : Nat) : Int) := fun a ha => by
      have := bAnd_nat (k := .u32) (a := a) (b := 255) (by simpa [top] using ha) (by simp only [top]; omega)
      rw [show ((255 : Nat) : Int) = 255 from rfl] at this
      rw [this, and255]
    rw [e24, e16, e8, a255 _ (Nat.lt_of_le_of_lt (Nat.div_le_self _ _) hn), a255 _ (Nat.lt_of_le_of_lt (Nat.div_le_self _ _) hn), a255 _ hn]
    have h24 : n / 2 ^ 24 < 256 := by omega
    have em : n / 2 ^ 24 = n / 2 ^ 24 % 256 := (Nat.mod_eq_of_lt h24).symm
    have hs := szN_bytes n
    rw [em]
    have m1 : n / 2 ^ 24 % 256 < 256 := Nat.mod_lt _ (by omega)
    have m2 : n / 2 ^ 16 % 256 < 256 := Nat.mod_lt _ (by omega)
    have m3 : n / 2 ^ 8 % 256 < 256 := Nat.mod_lt _ (by omega)
    have m4 : n % 256 < 256 := Nat.mod_lt _ (by omega)
    generalize n / 2 ^ 24 % 256 = q1 at *
    generalize n / 2 ^ 16 % 256 = q2 at *
    generalize n / 2 ^ 8 % 256 = q3 at *
    generalize n % 256 = q4 at *
    clear hn ht e24 e16 e8 a255 h24 em
    refine ⟨UInt8.ofNat (pop8 q1), ⟨by omega, ?_⟩, UInt8.ofNat (pop8 q2), ⟨by omega, ?_⟩, UInt8.ofNat (pop8 q3), ⟨by omega, ?_⟩, UInt8.ofNat (pop8 q4), ⟨by omega, ?_⟩, ?_⟩
    · rw [Int.toNat_natCast]
      clear hs m2 m3 m4
      revert q1
      decide +kernel
    · rw [Int.toNat_natCast]
      clear hs m1 m3 m4
      revert q2
      decide +kernel
    · rw [Int.toNat_natCast]
      clear hs m1 m2 m4
      revert q3
      decide +kernel
    · rw [Int.toNat_natCast]
      clear hs m1 m2 m3
      revert q4
      decide +kernel
    · rw [u8i_pop, u8i_pop, u8i_pop, u8i_pop]
      have b1 := pop8_le (m := q1)
      have b2 := pop8_le (m := q2)
      have b3 := pop8_le (m := q3)
      have b4 := pop8_le (m := q4)
      have w8 : ∀ a b : Nat, a + b < 256 → IntKind.wrap .u8 ((a : Int) + (b : Int)) = ((a + b : Nat) : Int) := fun a b h => by
        rw [show (a : Int) + (b : Int) = ((a + b : Nat) : Int) by omega]
        exact wrap_top (k := .u8) (by simpa [top] using h)
      rw [w8 _ _ (by omega), w8 _ _ (by omega), w8 _ _ (by omega), hs]
      have : pop8 q1 + pop8 q2 + pop8 q3 + pop8 q4 = pop8 q4 + pop8 q3 + pop8 q2 + pop8 q1 := by omega
      rw [this]
      exact wrap_id (by omega) (by omega))
  rw [← h1]; exact h2
theorem attrset_Size.spec {x : Int} (hx : U32 x) : attrset_Size.C x (szN (sN x) : Int) := by
  have := math_bits_OnesCount32.spec hx.lt
  rw [← hx.eq] at this
  obtain ⟨r, h1, h2⟩ := attrset_Size.enter x (fun r => r = (szN (sN x) : Int)) ⟨_, this, rfl⟩
  rw [← h1]; exact h2
end Go.Own

namespace Go.Own
namespace drossref02_Has
theorem spec {n i : Nat} (hn : n < 2 ^ 32) : C n i (n.testBit i) := by
  obtain ⟨r, h1, h2⟩ := enter n i (fun r => r = n.testBit i) (by
    rw [if_pos (by omega)]
    split
    · refine ⟨by omega, ?_⟩
      rw [bit_nat (k := .u32) (by simpa [top] using hn) (by decide)]
      cases n.testBit i <;> rfl
    · rw [Nat.testBit_lt_two_pow (Nat.lt_of_lt_of_le hn (Nat.pow_le_pow_right (by decide) (by omega)))])
  rw [← h1]; exact h2
end drossref02_Has
end Go.Own

namespace Go.Own
theorem drossref02_Members.spec {n : Nat} (hn : n < 2 ^ 32) : drossref02_Members.C n ((bitsOf n).map fun (i : Nat) => (i : Int)) := by
  obtain ⟨r, h1, h2⟩ := drossref02_Members.enter n (fun r => r = (bitsOf n).map fun (i : Nat) => (i : Int)) (by
    have : ∀ (m k : Nat), 32 - k ≤ m → k ≤ 32 → drossref02_Members.L1 n (((List.range k).filter fun i => n.testBit i).map fun (i : Nat) => (i : Int)) k (fun r => r = (bitsOf n).map fun (i : Nat) => (i : Int)) := by
      intro m
      induction m with
      | zero =>
        intro k hm hk
        apply drossref02_Members.L1_step
        rw [if_neg (by omega)]
        have e : k = 32 := by omega
        subst e; rfl
      | succ m ih =>
        intro k hm hk
        apply drossref02_Members.L1_step
        by_cases hlt : k < 32
        · rw [if_pos (by omega)]
          refine ⟨_, drossref02_Has.spec hn, ?_⟩
          have hlen : (((List.range k).filter fun i => n.testBit i).map fun (i : Nat) => (i : Int)).length ≤ 32 := by
            rw [List.length_map]
            exact Nat.le_trans (List.length_filter_le _ _) (by simp; omega)
          have := ih (k + 1) (by omega) (by omega)
          rw [List.range_succ, List.filter_append, List.map_append] at this
          by_cases hb : n.testBit k = true
          · rw [if_pos hb]
            refine ⟨by omega, ?_⟩
            apply drossref02_Members.L2_step
            rw [wrap_succ (by omega)]
            simpa [hb] using this
          · rw [if_neg hb]
            apply drossref02_Members.L2_step
            rw [wrap_succ (by omega)]
            simpa [hb] using this
        · rw [if_neg (by omega)]
          have e : k = 32 := by omega
          subst e; rfl
    exact this 32 0 (by omega) (by omega))
  rw [← h1]; exact h2
end Go.Own

namespace Go.Own
theorem and_half (a b : Nat) : (a &&& b) / 2 = (a / 2) &&& (b / 2) := by
  apply Nat.eq_of_testBit_eq
  intro i
  rw [Nat.testBit_and, Nat.testBit_div_two, Nat.testBit_div_two, Nat.testBit_div_two, Nat.testBit_and]
theorem and_odd (a b : Nat) : (a &&& b) % 2 = 1 ↔ a % 2 = 1 ∧ b % 2 = 1 := by
  have := Nat.testBit_and a b 0
  rw [Nat.testBit_zero, Nat.testBit_zero, Nat.testBit_zero] at this
  by_cases h1 : a % 2 = 1 <;> by_cases h2 : b % 2 = 1 <;> simp_all
theorem and_bin (a b : Nat) : a &&& b = 2 * ((a / 2) &&& (b / 2)) + (if a % 2 = 1 ∧ b % 2 = 1 then 1 else 0) := by
  have h := Nat.div_add_mod (a &&& b) 2
  have h2 := and_odd a b
  rw [and_half] at h
  split
  · rename_i hc; have := h2.2 hc; omega
  · rename_i hc
    have : ¬ (a &&& b) % 2 = 1 := fun hh => hc (h2.1 hh)
    omega
theorem sub_bin {a b : Nat} : a &&& b = a ↔ ((a / 2) &&& (b / 2) = a / 2) ∧ (a % 2 = 1 → b % 2 = 1) := by
  constructor
  · intro h
    constructor
    · rw [← and_half, h]
    · intro h1
      exact ((and_odd a b).1 (by rw [h]; exact h1)).2
  · rintro ⟨h1, h2⟩
    rw [and_bin, h1]
    by_cases ha : a % 2 = 1
    · rw [if_pos ⟨ha, h2 ha⟩]; omega
    · rw [if_neg (fun h => ha h.1)]; omega
theorem sub_le {a b : Nat} (h : a &&& b = a) : a ≤ b := by rw [← h]; exact Nat.and_le_right
theorem pred_sub (x : Nat) : ∀ (s y : Nat), x &&& s = x → 0 < x → y &&& s = y → y < x → y ≤ (x - 1) &&& s := by
  induction x using Nat.strongRecOn with
  | _ x ih =>
    intro s y hx h0 hy hlt
    obtain ⟨x1, x2⟩ := sub_bin.1 hx
    obtain ⟨y1, y2⟩ := sub_bin.1 hy
    rw [and_bin]
    by_cases hodd : x % 2 = 1
    · have e : (x - 1) / 2 = x / 2 := by omega
      rw [e, x1]
      omega
    · have e : (x - 1) / 2 = x / 2 - 1 := by omega
      have e2 : (x - 1) % 2 = 1 := by omega
      rw [e, e2]
      have := ih (x / 2) (by omega) (s / 2) (y / 2) x1 (by omega) y1 (by omega)
      by_cases hy1 : y % 2 = 1
      · rw [if_pos ⟨rfl, y2 hy1⟩]; omega
      · split <;> omega
theorem compl_sub (s : Nat) : ∀ y, y &&& s = y → (s - y) &&& s = s - y := by
  induction s using Nat.strongRecOn with
  | _ s ih =>
    intro y hy
    have hle := sub_le hy
    obtain ⟨y1, y2⟩ := sub_bin.1 hy
    have hle1 := sub_le y1
    by_cases h0 : s = 0
    · subst h0; simp
    · rw [sub_bin]
      by_cases hs : s % 2 = 1
      · by_cases hy1 : y % 2 = 1
        · have e : (s - y) / 2 = s / 2 - y / 2 := by omega
          rw [e]
          exact ⟨ih (s / 2) (by omega) _ y1, fun _ => hs⟩
        · have e : (s - y) / 2 = s / 2 - y / 2 := by omega
          rw [e]
          exact ⟨ih (s / 2) (by omega) _ y1, fun _ => hs⟩
      · have hy1 : ¬ y % 2 = 1 := fun h => hs (y2 h)
        have e : (s - y) / 2 = s / 2 - y / 2 := by omega
        rw [e]
        exact ⟨ih (s / 2) (by omega) _ y1, fun h => by omega⟩
theorem ndiff_bin (a b : Nat) : ndiff a b = 2 * ndiff (a / 2) (b / 2) + (if a % 2 = 1 ∧ b % 2 = 0 then 1 else 0) := by
  apply Nat.eq_of_testBit_eq
  intro i
  cases i with
  | zero =>
    rw [ndiff_bit, Nat.testBit_zero, Nat.testBit_zero, Nat.testBit_zero]
    have ha : a % 2 = 0 ∨ a % 2 = 1 := by omega
    have hb : b % 2 = 0 ∨ b % 2 = 1 := by omega
    rcases ha with ha | ha <;> rcases hb with hb | hb <;> simp [ha, hb] <;> omega
  | succ i =>
    rw [ndiff_bit, Nat.testBit_add_one, Nat.testBit_add_one, Nat.testBit_add_one]
    have e : (2 * ndiff (a / 2) (b / 2) + (if a % 2 = 1 ∧ b % 2 = 0 then 1 else 0)) / 2 = ndiff (a / 2) (b / 2) := by split <;> omega
    rw [e, ndiff_bit]
theorem sub_ndiff (s : Nat) : ∀ y, y &&& s = y → s - y = ndiff s y := by
  induction s using Nat.strongRecOn with
  | _ s ih =>
    intro y hy
    have hle := sub_le hy
    obtain ⟨y1, y2⟩ := sub_bin.1 hy
    have hle1 := sub_le y1
    by_cases h0 : s = 0
    · subst h0
      have : y = 0 := by omega
      subst this; rfl
    · rw [ndiff_bin, ← ih (s / 2) (by omega) _ y1]
      by_cases hs : s % 2 = 1
      · by_cases hy1 : y % 2 = 1
        · rw [if_neg (by omega)]; omega
        · rw [if_pos (by omega)]; omega
      · have hy1 : ¬ y % 2 = 1 := fun h => hs (y2 h)
        rw [if_neg (by omega)]; omega
def nxt (x s : Nat) : Nat := (2 ^ 64 + x - s) &&& s
theorem nxt_eq {x s : Nat} (hs : s < 2 ^ 32) (hx : x &&& s = x) (hlt : x < s) : nxt x s = s - (((s - x) - 1) &&& s) := by
  rw [sub_ndiff s _ (by rw [Nat.and_assoc, Nat.and_self])]
  unfold nxt
  apply Nat.eq_of_testBit_eq
  intro i
  rw [Nat.testBit_and, ndiff_bit, Nat.testBit_and]
  have e : 2 ^ 64 + x - s = 2 ^ 64 - ((s - x - 1) + 1) := by omega
  rw [e, Nat.testBit_two_pow_sub_succ (by omega)]
  by_cases hi : i < 64
  · simp only [hi, decide_true, Bool.true_and]
    cases s.testBit i <;> simp
  · have : s.testBit i = false := Nat.testBit_lt_two_pow (Nat.lt_of_lt_of_le hs (Nat.pow_le_pow_right (by omega) (by omega)))
    simp [this]
theorem nxt_spec {x s : Nat} (hs : s < 2 ^ 32) (hx : x &&& s = x) (hlt : x < s) : (nxt x s &&& s = nxt x s) ∧ x < nxt x s ∧ ∀ y, y &&& s = y → x < y → nxt x s ≤ y := by
  have hd := compl_sub s x hx
  have hp : ((s - x) - 1) &&& s ≤ (s - x) - 1 := Nat.and_le_left
  refine ⟨by unfold nxt; rw [Nat.and_assoc, Nat.and_self], ?_, fun y hy hxy => ?_⟩
  · rw [nxt_eq hs hx hlt]; omega
  · rw [nxt_eq hs hx hlt]
    have hle := sub_le hy
    have := pred_sub (s - x) s (s - y) hd (by omega) (compl_sub s y hy) (by omega)
    omega
def bsL : Nat → Nat → List Nat
  | 0, _ => [0]
  | k + 1, s => (bsL k (s / 2)).flatMap fun y => if s % 2 = 1 then [2 * y, 2 * y + 1] else [2 * y]
theorem bsL_mem : ∀ {k s : Nat}, s < 2 ^ k → ∀ n, n ∈ bsL k s ↔ n &&& s = n
  | 0, s, hs, n => by
    have : s = 0 := by simpa using hs
    subst this
    simp [bsL, eq_comm]
  | k + 1, s, hs, n => by
    have ih := bsL_mem (k := k) (s := s / 2) (by rw [Nat.pow_succ] at hs; omega)
    simp only [bsL, List.mem_flatMap]
    rw [sub_bin]
    constructor
    · rintro ⟨y, hy, hn⟩
      have hy := (ih y).1 hy
      split at hn
      · rename_i h1
        rcases List.mem_cons.1 hn with rfl | hn
        · have : 2 * y / 2 = y := by omega
          rw [this]; exact ⟨hy, fun _ => h1⟩
        · have hn := List.mem_singleton.1 hn
          subst hn
          have : (2 * y + 1) / 2 = y := by omega
          rw [this]; exact ⟨hy, fun _ => h1⟩
      · have hn := List.mem_singleton.1 hn
        subst hn
        have : 2 * y / 2 = y := by omega
        rw [this]; exact ⟨hy, fun h => by omega⟩
    · rintro ⟨h1, h2⟩
      refine ⟨n / 2, (ih _).2 h1, ?_⟩
      split
      · by_cases hn : n % 2 = 1
        · have : n = 2 * (n / 2) + 1 := by omega
          simp; omega
        · simp; omega
      · rename_i hs1
        have : ¬ n % 2 = 1 := fun h => hs1 (h2 h)
        simp; omega
theorem bsL_asc : ∀ {k s : Nat}, (bsL k s).Pairwise (· < ·)
  | 0, s => by simp [bsL]
  | k + 1, s => by
    simp only [bsL]
    rw [List.pairwise_flatMap]
    refine ⟨fun a _ => ?_, (bsL_asc (k := k) (s := s / 2)).imp fun {a b} hab x hx y hy => ?_⟩
    · split <;> simp
    · split at hx
      · rename_i h1
        rw [if_pos h1] at hy
        simp at hx hy; omega
      · rename_i h1
        rw [if_neg h1] at hy
        simp at hx hy; omega
def pcN (k s : Nat) : Nat := ((List.range k).filter fun i => s.testBit i).length
theorem pcN_succ (k s : Nat) : pcN (k + 1) s = (if s % 2 = 1 then 1 else 0) + pcN k (s / 2) := by
  unfold pcN
  rw [List.range_succ_eq_map, List.filter_cons, List.filter_map]
  have e : (List.range k).filter ((fun i => s.testBit i) ∘ Nat.succ) = (List.range k).filter fun i => (s / 2).testBit i := by
    refine List.filter_congr fun i _ => ?_
    simp only [Function.comp, Nat.succ_eq_add_one, Nat.testBit_add_one]
  rw [e, Nat.testBit_zero]
  by_cases h : s % 2 = 1
  · simp [h]; omega
  · simp [h]
theorem sum_const (l : List Nat) (c : Nat) : (l.map fun _ => c).sum = l.length * c := by
  induction l with
  | nil => simp
  | cons a l ih => rw [List.map_cons, List.sum_cons, ih, List.length_cons, Nat.add_mul]; omega
theorem bsL_len : ∀ {k s : Nat}, (bsL k s).length = 2 ^ pcN k s
  | 0, s => by simp [bsL, pcN]
  | k + 1, s => by
    have ih := bsL_len (k := k) (s := s / 2)
    rw [pcN_succ]
    simp only [bsL, List.length_flatMap]
    by_cases h : s % 2 = 1
    · simp only [if_pos h]
      have e : ((bsL k (s / 2)).map fun a => [2 * a, 2 * a + 1].length).sum = (bsL k (s / 2)).length * 2 := sum_const _ 2
      rw [e, ih, Nat.pow_add]; omega
    · simp only [if_neg h]
      have e : ((bsL k (s / 2)).map fun a => [2 * a].length).sum = (bsL k (s / 2)).length * 1 := sum_const _ 1
      rw [e, ih]; simp
theorem szN_pc (s : Nat) : szN s = pcN 32 s := rfl
theorem asc_len {α : Type} (f : α → Nat) {N : Nat} : ∀ {l : List α}, l.Pairwise (fun a b => f a < f b) → (∀ x ∈ l, f x < N) → l.length ≤ N := by
  have : ∀ (l : List α) (m : Nat), l.Pairwise (fun a b => f a < f b) → (∀ x ∈ l, m ≤ f x ∧ f x < N) → l.length + m ≤ max N m := by
    intro l
    induction l with
    | nil => intro m _ _; simp; omega
    | cons a l ih =>
      intro m hp hb
      obtain ⟨h1, h2⟩ := List.pairwise_cons.1 hp
      have ha := hb a (by simp)
      have := ih (f a + 1) h2 fun x hx => ⟨h1 x hx, (hb x (by simp [hx])).2⟩
      simp only [List.length_cons]
      omega
  intro l hp hb
  have := this l 0 hp fun x hx => ⟨Nat.zero_le _, hb x hx⟩
  omega
end Go.Own
