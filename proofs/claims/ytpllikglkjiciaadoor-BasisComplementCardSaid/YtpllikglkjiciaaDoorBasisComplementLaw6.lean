/- What the functions that the law reaches answer. No conditions. -/
import Derived.Test.YtpllikglkjiciaaDoorBasisComplementLaw3
import Derived.Test.YtpllikglkjiciaaDoorBasisComplementLaw5
import Derived.Test.YtpllikglkjiciaaDoorBasisComplementLaw1
import Derived.Test.YtpllikglkjiciaaDoorBasisComplementLaw2
set_option linter.all false

namespace Go.Own
namespace drossref02_Full
theorem loop {k : Nat} {φ : Int → Prop} (h : φ (fullN k)) : ∀ (m i : Nat), i + m = min k 32 → L1 k ((2 ^ i - 1 : Nat) : Int) i φ
  | 0, i, hi => by
    apply L1_step
    have e : ((2 ^ i - 1 : Nat) : Int) = (fullN k : Int) := by unfold fullN; rw [← hi, Nat.add_zero]
    rw [e]
    split
    · rw [if_neg (by omega)]; exact h
    · exact h
  | m + 1, i, hi => by
    apply L1_step
    rw [if_pos (by omega), if_pos (by omega)]
    refine ⟨by omega, ?_⟩
    have hp : 2 ^ (i + 1) ≤ 2 ^ 32 := Nat.pow_le_pow_right (by decide) (by omega)
    have h2 : 0 < 2 ^ i := Nat.pos_of_ne_zero (by simp)
    rw [Nat.pow_succ] at hp
    rw [shl1_nat (k := .u32) (by simp only [top]; omega), bOr_nat (k := .u32) (by simp only [top]; omega) (by simp only [top]; omega), wrap_succ (by omega)]
    have e : (2 ^ i - 1) ||| 2 ^ i = 2 ^ (i + 1) - 1 := by
      apply Nat.eq_of_testBit_eq
      intro j
      rw [Nat.testBit_or, Nat.testBit_two_pow_sub_one, Nat.testBit_two_pow, Nat.testBit_two_pow_sub_one]
      by_cases h1 : j < i
      · have : j < i + 1 := by omega
        simp [h1, this]
      · by_cases h3 : i = j
        · subst h3; simp
        · have : ¬ j < i + 1 := by omega
          simp [h1, h3, this]
    rw [e]
    exact loop h m (i + 1) (by omega)
theorem spec {k : Nat} : C k (fullN k) := by
  obtain ⟨r, h1, h2⟩ := enter k (fun r => r = (fullN k : Int)) (loop (φ := fun r => r = (fullN k : Int)) rfl (min k 32) 0 (by omega))
  rw [← h1]; exact h2
end drossref02_Full
end Go.Own

namespace Go.Own
def sN (x : Int) : Nat := x.toNat
def U32 (x : Int) : Prop := 0 ≤ x ∧ x < 4294967296
theorem U32.eq {x : Int} (h : U32 x) : x = (sN x : Int) := by have := h.1; unfold sN; omega
theorem U32.lt {x : Int} (h : U32 x) : sN x < 2 ^ 32 := by have := h.1; have := h.2; unfold sN; omega
theorem U32.top {x : Int} (h : U32 x) : sN x < 2 ^ top .u32 := by simpa [Go.Own.top] using h.lt
def FdOK (l : List api_FD) : Prop := ∀ d ∈ l, U32 d.Lhs ∧ U32 d.Rhs
def MvdOK (l : List api_MVD) : Prop := ∀ d ∈ l, U32 d.Lhs ∧ U32 d.Rhs
def inU (n : Nat) (l r : Int) : Bool := decide (sN l < 2 ^ n) && decide (sN r < 2 ^ n)
theorem in_or {n : Nat} {l r : Int} (hl : U32 l) (hr : U32 r) : (shrw .u32 (bOr .u32 l r) (n : Int) = 0) ↔ inU n l r = true := by
  rw [hl.eq, hr.eq, bOr_nat hl.top hr.top, shrw_nat (Nat.or_lt_two_pow hl.top hr.top)]
  unfold inU
  rw [Bool.and_eq_true, decide_eq_true_iff, decide_eq_true_iff]
  have e1 : sN (sN l : Int) = sN l := by unfold sN; omega
  have e2 : sN (sN r : Int) = sN r := by unfold sN; omega
  rw [e1, e2, ← or_lt, ← div_zero]
  omega
theorem drossref02_Sub.spec {a b : Nat} (ha : a < 2 ^ 32) (hb : b < 2 ^ 32) : drossref02_Sub.C a b (decide (a &&& b = a)) := by
  obtain ⟨r, h1, h2⟩ := drossref02_Sub.enter a b (fun r => r = decide (a &&& b = a)) (by
    rw [bAnd_nat (k := .u32) (by simpa [top] using ha) (by simpa [top] using hb)]
    by_cases h : a &&& b = a
    · simp [h]
    · have : ¬ ((a &&& b : Nat) : Int) = (a : Int) := by omega
      simp [h, this])
  rw [← h1]; exact h2
theorem sub_full {a n : Nat} (ha : a < 2 ^ 32) (hn : n ≤ 32) : (a &&& fullN n = a) ↔ a < 2 ^ n := by
  rw [sub_iff, lt_iff]
  constructor
  · intro h i hi
    have := h i hi
    rw [fullN_bit, decide_eq_true_iff] at this
    omega
  · intro h i hi
    rw [fullN_bit, decide_eq_true_iff]
    have := h i hi
    omega
theorem sub_in {n : Nat} {x : Int} (hn : n ≤ 32) (hx : U32 x) : drossref02_Sub.C x (fullN n) (decide (sN x < 2 ^ n)) := by
  have := drossref02_Sub.spec (a := sN x) (b := fullN n) hx.lt fullN_lt
  rw [← hx.eq] at this
  have e : decide (sN x &&& fullN n = sN x) = decide (sN x < 2 ^ n) := by rw [decide_eq_decide]; exact sub_full hx.lt hn
  rw [e] at this; exact this
def fdsE (n : Int) (l : List api_FD) : Int := if n < 0 ∨ 16 < n then 7 else if 64 < l.length then 3 else if (l.all fun d => inU n.toNat d.Lhs d.Rhs) = true then 0 else 1
theorem all_goal {α : Type} {l : List α} {p : α → Bool} {L : Int → Prop} {φ : Int → Prop} (stop : φ 0 → L (l.length : Int))
    (step : ∀ (k : Nat) a, l[k]? = some a → k < l.length → (if p a = true then L ((k + 1 : Nat) : Int) else φ 1) → L k) (h : φ (if l.all p = true then 0 else 1)) : L 0 :=
  all_loop (l := l) (p := p) (L := L) (φ := fun b => φ (if b = true then 0 else 1)) (fun h => stop (by simpa using h)) (fun k a ha hk h => step k a ha hk (by simpa using h)) h
theorem closure_Valid.spec {n : Int} {l : List api_FD} (hl : FdOK l) : closure_Valid.C n l (fdsE n l) := by
  obtain ⟨r, h1, h2⟩ := closure_Valid.enter n l (fun r => r = fdsE n l) (by
    by_cases a : n < 0 ∨ 16 < n
    · have e : fdsE n l = 7 := if_pos a
      rw [e]
      by_cases b : n < 0
      · rw [if_pos b]
      · rw [if_neg b, if_pos (by omega)]
    · rw [if_neg (by omega), if_neg (by omega)]
      by_cases b : 64 < l.length
      · have e : fdsE n l = 3 := by unfold fdsE; rw [if_neg a, if_pos b]
        rw [e, if_pos (by omega)]
      · have e : fdsE n l = if (l.all fun d => inU n.toNat d.Lhs d.Rhs) = true then 0 else 1 := by unfold fdsE; rw [if_neg a, if_neg b]
        rw [e, if_neg (by omega)]
        · obtain ⟨m, rfl⟩ : ∃ m : Nat, n = m := ⟨n.toNat, by omega⟩
          refine all_goal (l := l) (p := fun d => inU m d.Lhs d.Rhs) (L := fun i => closure_Valid.L1 m l i _) (φ := fun r => r = _) ?_ ?_ rfl
          · intro h; apply closure_Valid.L1_step; rw [if_neg (by omega)]; exact h
          · intro k d hd hk h
            apply closure_Valid.L1_step
            rw [if_pos (by omega)]
            refine ⟨d, lget_of hd, by omega, ?_⟩
            have hd' := hl d (List.mem_of_getElem? hd)
            have e := in_or (n := m) hd'.1 hd'.2
            rw [wrap_succ (by omega)]
            split
            · rename_i hh; rw [if_pos (e.1 hh)] at h; exact h
            · rename_i hh; rw [if_neg (fun h3 => hh (e.2 h3))] at h; exact h)
  rw [← h1]; exact h2
theorem drossref09_Valid.spec {n : Int} {l : List api_FD} (hl : FdOK l) : drossref09_Valid.C n l (fdsE n l) := by
  obtain ⟨r, h1, h2⟩ := drossref09_Valid.enter n l (fun r => r = fdsE n l) (by
    by_cases a : n < 0 ∨ 16 < n
    · have e : fdsE n l = 7 := if_pos a
      rw [e]
      by_cases b : n < 0
      · rw [if_pos b]
      · rw [if_neg b, if_pos (by omega)]
    · rw [if_neg (by omega), if_neg (by omega)]
      by_cases b : 64 < l.length
      · have e : fdsE n l = 3 := by unfold fdsE; rw [if_neg a, if_pos b]
        rw [e, if_pos (by omega)]
      · have e : fdsE n l = if (l.all fun d => inU n.toNat d.Lhs d.Rhs) = true then 0 else 1 := by unfold fdsE; rw [if_neg a, if_neg b]
        rw [e, if_neg (by omega)]
        · obtain ⟨m, rfl⟩ : ∃ m : Nat, n = m := ⟨n.toNat, by omega⟩
          refine ⟨_, drossref02_Full.spec, ?_⟩
          refine all_goal (l := l) (p := fun d => inU m d.Lhs d.Rhs) (L := fun i => drossref09_Valid.L1 l (fullN m) i _) (φ := fun r => r = _) ?_ ?_ rfl
          · intro h; apply drossref09_Valid.L1_step; rw [if_neg (by omega)]; exact h
          · intro k d hd hk h
            apply drossref09_Valid.L1_step
            rw [if_pos (by omega)]
            have hd' := hl d (List.mem_of_getElem? hd)
            refine ⟨d, lget_of hd, _, sub_in (by omega) hd'.1, ?_⟩
            rw [wrap_succ (by omega)]
            unfold inU at h
            split
            · rename_i hh
              refine ⟨_, sub_in (by omega) hd'.2, ?_⟩
              split
              · rename_i h3; rw [if_pos (by rw [hh, h3]; rfl)] at h; exact h
              · rename_i h3; rw [if_neg (by rw [hh, Bool.true_and]; exact h3)] at h; exact h
            · rename_i hh; rw [if_neg (by rw [Bool.eq_false_iff.2 hh]; simp)] at h; exact h)
  rw [← h1]; exact h2
def basE (n : Int) (l : List api_FD) (m : List api_MVD) : Int := if fdsE n l = 0 then (if 64 < m.length then 3 else if (m.all fun d => inU n.toNat d.Lhs d.Rhs) = true then 0 else 1) else fdsE n l
theorem fdsE_n {n : Int} {l : List api_FD} (h : fdsE n l = 0) : 0 ≤ n ∧ n ≤ 16 := by
  unfold fdsE at h
  split at h
  · cases h
  · omega
theorem basis_Valid.spec {n : Int} {l : List api_FD} {m : List api_MVD} (hl : FdOK l) (hm : MvdOK m) : basis_Valid.C n l m (basE n l m) := by
  obtain ⟨r, h1, h2⟩ := basis_Valid.enter n l m (fun r => r = basE n l m) (by
    refine ⟨_, closure_Valid.spec hl, ?_⟩
    unfold basE
    split
    · rename_i h0
      have hn := fdsE_n h0
      split
      · rw [if_pos (by omega)]
      · rw [if_neg (by omega)]
        obtain ⟨q, rfl⟩ : ∃ q : Nat, n = q := ⟨n.toNat, by omega⟩
        refine all_goal (l := m) (p := fun d => inU q d.Lhs d.Rhs) (L := fun i => basis_Valid.L1 q m i _) (φ := fun r => r = _) ?_ ?_ rfl
        · intro h; apply basis_Valid.L1_step; rw [if_neg (by omega)]; exact h
        · intro k d hd hk h
          apply basis_Valid.L1_step
          rw [if_pos (by omega)]
          refine ⟨d, lget_of hd, by omega, ?_⟩
          have hd' := hm d (List.mem_of_getElem? hd)
          have e := in_or (n := q) hd'.1 hd'.2
          rw [wrap_succ (by omega)]
          split
          · rename_i hh; rw [if_pos (e.1 hh)] at h; exact h
          · rename_i hh; rw [if_neg (fun h3 => hh (e.2 h3))] at h; exact h
    · rfl)
  rw [← h1]; exact h2
theorem drossref13_within.spec {n : Nat} {x : Int} (hn : n ≤ 32) (hx : U32 x) : drossref13_within.C n x (decide (sN x < 2 ^ n)) := by
  obtain ⟨r, h1, h2⟩ := drossref13_within.enter n x (fun r => r = decide (sN x < 2 ^ n)) ⟨_, drossref02_Full.spec, _, sub_in hn hx, rfl⟩
  rw [← h1]; exact h2
theorem drossref13_Valid.spec {n : Int} {l : List api_FD} {m : List api_MVD} (hl : FdOK l) (hm : MvdOK m) : drossref13_Valid.C n l m (basE n l m) := by
  obtain ⟨r, h1, h2⟩ := drossref13_Valid.enter n l m (fun r => r = basE n l m) (by
    refine ⟨_, drossref09_Valid.spec hl, ?_⟩
    unfold basE
    split
    · rename_i h0
      have hn := fdsE_n h0
      split
      · rw [if_pos (by omega)]
      · rw [if_neg (by omega)]
        obtain ⟨q, rfl⟩ : ∃ q : Nat, n = q := ⟨n.toNat, by omega⟩
        refine all_goal (l := m) (p := fun d => inU q d.Lhs d.Rhs) (L := fun i => drossref13_Valid.L1 q m i _) (φ := fun r => r = _) ?_ ?_ rfl
        · intro h; apply drossref13_Valid.L1_step; rw [if_neg (by omega)]; exact h
        · intro k d hd hk h
          apply drossref13_Valid.L1_step
          rw [if_pos (by omega)]
          have hd' := hm d (List.mem_of_getElem? hd)
          refine ⟨d, lget_of hd, _, drossref13_within.spec (by omega) hd'.1, ?_⟩
          rw [wrap_succ (by omega)]
          unfold inU at h
          split
          · rename_i hh
            refine ⟨_, drossref13_within.spec (by omega) hd'.2, ?_⟩
            split
            · rename_i h3; rw [if_pos (by rw [hh, h3]; rfl)] at h; exact h
            · rename_i h3; rw [if_neg (by rw [hh, Bool.true_and]; exact h3)] at h; exact h
          · rename_i hh; rw [if_neg (by rw [Bool.eq_false_iff.2 hh]; simp)] at h; exact h
    · rfl)
  rw [← h1]; exact h2
end Go.Own

namespace Go.Own
theorem full_shl {n : Int} (h0 : 0 ≤ n) (h1 : n ≤ 16) : IntKind.wrap .u32 ((shlw .u32 1 n) - 1) = (fullN n.toNat : Int) := by
  obtain ⟨m, rfl⟩ : ∃ m : Nat, n = m := ⟨n.toNat, by omega⟩
  rw [shl1_nat (by simp only [top]; omega)]
  have hp : 2 ^ m ≤ 2 ^ 16 := Nat.pow_le_pow_right (by omega) (by omega)
  have hq : 0 < 2 ^ m := Nat.pow_pos (by omega)
  have e : fullN (m : Int).toNat = 2 ^ m - 1 := by unfold fullN; rw [Int.toNat_natCast, Nat.min_eq_left (by omega)]
  rw [e]
  have : ((2 ^ m : Nat) : Int) - 1 = ((2 ^ m - 1 : Nat) : Int) := by omega
  rw [this]
  generalize 2 ^ m - 1 = q at *
  have : q < 65536 := by omega
  simp only [IntKind.wrap]
  simp [IntKind.bits, IntKind.signed]
  omega
def compF (n : Int) (d : api_MVD) : api_MVD := if n < 0 ∨ 16 < n then ⟨0, 0⟩ else ⟨d.Lhs, bAndNot .u32 (fullN n.toNat : Int) (bOr .u32 d.Lhs d.Rhs)⟩
theorem basis_Complement.spec {n : Int} {d : api_MVD} : basis_Complement.C n d (compF n d) := by
  obtain ⟨r, h1, h2⟩ := basis_Complement.enter n d (fun r => r = compF n d) (by
    by_cases a : n < 0 ∨ 16 < n
    · have e : compF n d = ⟨0, 0⟩ := if_pos a
      rw [e]
      by_cases b : n < 0
      · rw [if_pos b]
      · rw [if_neg b, if_pos (by omega)]
    · rw [if_neg (by omega), if_neg (by omega)]
      refine ⟨by omega, ?_⟩
      rw [full_shl (by omega) (by omega)]
      unfold compF; rw [if_neg a])
  rw [← h1]; exact h2
theorem drossref13_Complement.spec {n : Int} {d : api_MVD} : drossref13_Complement.C n d (compF n d) := by
  obtain ⟨r, h1, h2⟩ := drossref13_Complement.enter n d (fun r => r = compF n d) (by
    by_cases a : n < 0 ∨ 16 < n
    · have e : compF n d = ⟨0, 0⟩ := if_pos a
      rw [e]
      by_cases b : n < 0
      · rw [if_pos b]
      · rw [if_neg b, if_pos (by omega)]
    · rw [if_neg (by omega), if_neg (by omega)]
      obtain ⟨m, rfl⟩ : ∃ m : Nat, n = m := ⟨n.toNat, by omega⟩
      refine ⟨_, drossref02_Full.spec, ?_⟩
      unfold compF; rw [if_neg a]; rfl)
  rw [← h1]; exact h2
def trivF (n : Int) (d : api_MVD) : Bool := if n < 0 ∨ 16 < n then false else if inU n.toNat d.Lhs d.Rhs = true then (if ndiff (sN d.Rhs) (sN d.Lhs) = 0 then true else bOr .u32 d.Lhs d.Rhs == (fullN n.toNat : Int)) else false
theorem basis_Trivial.spec {n : Int} {d : api_MVD} (hd : U32 d.Lhs ∧ U32 d.Rhs) : basis_Trivial.C n d (trivF n d) := by
  obtain ⟨r, h1, h2⟩ := basis_Trivial.enter n d (fun r => r = trivF n d) (by
    by_cases a : n < 0 ∨ 16 < n
    · have e : trivF n d = false := if_pos a
      rw [e]
      by_cases b : n < 0
      · rw [if_pos b]
      · rw [if_neg b, if_pos (by omega)]
    · rw [if_neg (by omega), if_neg (by omega)]
      refine ⟨by omega, ?_⟩
      rw [full_shl (by omega) (by omega)]
      have e : bAndNot .u32 d.Rhs d.Lhs = (ndiff (sN d.Rhs) (sN d.Lhs) : Int) := by
        conv => lhs; rw [hd.1.eq, hd.2.eq]
        exact bAndNot_nat hd.2.top hd.1.top
      obtain ⟨m, rfl⟩ : ∃ m : Nat, n = m := ⟨n.toNat, by omega⟩
      have ei := in_or (n := m) hd.1 hd.2
      by_cases h1 : inU m d.Lhs d.Rhs = true
      · rw [if_pos (ei.2 h1), e]
        by_cases h2 : ndiff (sN d.Rhs) (sN d.Lhs) = 0
        · have t : trivF m d = true := by unfold trivF; rw [if_neg a, if_pos (by simpa using h1), if_pos h2]
          rw [if_pos (by omega), t]
        · have t : trivF m d = (bOr .u32 d.Lhs d.Rhs == (fullN (m : Int).toNat : Int)) := by unfold trivF; rw [if_neg a, if_pos (by simpa using h1), if_neg h2]
          rw [if_neg (by omega), t]
          exact ⟨by omega, rfl⟩
      · have t : trivF m d = false := by unfold trivF; rw [if_neg a, if_neg (by simpa using h1)]
        rw [if_neg (fun h => h1 (ei.1 h)), t])
  rw [← h1]; exact h2
theorem or_U {a b : Int} (ha : U32 a) (hb : U32 b) : bOr .u32 a b = ((sN a ||| sN b : Nat) : Int) := by
  conv => lhs; rw [ha.eq, hb.eq]
  exact bOr_nat ha.top hb.top
theorem or_U32 {a b : Int} (ha : U32 a) (hb : U32 b) : U32 (bOr .u32 a b) := by
  rw [or_U ha hb]
  have := Nat.or_lt_two_pow ha.lt hb.lt
  exact ⟨by omega, by omega⟩
theorem or_in {n : Nat} {a b : Int} (ha : U32 a) (hb : U32 b) : (sN (bOr .u32 a b) < 2 ^ n) ↔ inU n a b = true := by
  rw [or_U ha hb]
  have e : sN ((sN a ||| sN b : Nat) : Int) = sN a ||| sN b := by unfold sN; exact Int.toNat_natCast _
  rw [e, or_lt]
  unfold inU
  rw [Bool.and_eq_true, decide_eq_true_iff, decide_eq_true_iff]
theorem drossref13_Trivial.spec {n : Int} {d : api_MVD} (hd : U32 d.Lhs ∧ U32 d.Rhs) : drossref13_Trivial.C n d (trivF n d) := by
  obtain ⟨r, h1, h2⟩ := drossref13_Trivial.enter n d (fun r => r = trivF n d) (by
    by_cases a : n < 0 ∨ 16 < n
    · have e : trivF n d = false := if_pos a
      rw [e]
      by_cases b : n < 0
      · rw [if_pos b]
      · rw [if_neg b, if_pos (by omega)]
    · rw [if_neg (by omega), if_neg (by omega)]
      obtain ⟨m, rfl⟩ : ∃ m : Nat, n = m := ⟨n.toNat, by omega⟩
      refine ⟨_, drossref13_within.spec (n := m) (by omega) (or_U32 hd.1 hd.2), ?_⟩
      by_cases h1 : inU m d.Lhs d.Rhs = true
      · rw [if_pos (by rw [decide_eq_true_iff]; exact (or_in hd.1 hd.2).2 h1)]
        have hs := drossref02_Sub.spec (a := sN d.Rhs) (b := sN d.Lhs) hd.2.lt hd.1.lt
        rw [← hd.1.eq, ← hd.2.eq] at hs
        refine ⟨_, hs, ?_⟩
        have eq : (sN d.Rhs &&& sN d.Lhs = sN d.Rhs) ↔ ndiff (sN d.Rhs) (sN d.Lhs) = 0 := by rw [sub_iff, ndiff_zero]
        by_cases h2 : ndiff (sN d.Rhs) (sN d.Lhs) = 0
        · have t : trivF m d = true := by unfold trivF; rw [if_neg a, if_pos (by simpa using h1), if_pos h2]
          rw [if_pos (by rw [decide_eq_true_iff]; exact eq.2 h2), t]
        · have t : trivF m d = (bOr .u32 d.Lhs d.Rhs == (fullN (m : Int).toNat : Int)) := by unfold trivF; rw [if_neg a, if_pos (by simpa using h1), if_neg h2]
          rw [if_neg (by rw [decide_eq_true_iff]; exact fun h => h2 (eq.1 h)), t]
          exact ⟨_, drossref02_Full.spec, rfl⟩
      · have t : trivF m d = false := by unfold trivF; rw [if_neg a, if_neg (by simpa using h1)]
        rw [if_neg (by rw [decide_eq_true_iff]; exact fun h => h1 ((or_in hd.1 hd.2).1 h)), t])
  rw [← h1]; exact h2
end Go.Own

namespace Go.Own
namespace drosslaw13_BasisComplement
theorem spec (n : Int) (d : api_MVD) (hd : U32 d.Lhs ∧ U32 d.Rhs) : C n d true := by
  obtain ⟨r, h1, h2⟩ := enter n d (fun r => r = true) (by
    refine ⟨true, drosslaw13_awake.spec, ?_⟩
    rw [if_pos rfl]
    refine ⟨_, basis_Complement.spec, _, drossref13_Complement.spec, ?_⟩
    rw [if_pos (by simp)]
    exact ⟨_, basis_Trivial.spec hd, _, drossref13_Trivial.spec hd, by simp⟩)
  subst h1; exact h2
theorem law {xs : List D} (hx : TyAll env.P drosslaw13_BasisComplement_K drosslaw13_BasisComplement_T xs) : Ret env drosslaw13_BasisComplement_F xs (.lit (.bool true)) [] :=
  drosslaw13_BasisComplement_of (fun x0 x1 h0 h1 => spec x0 x1 ⟨u32_of h1.1, u32_of h1.2⟩) hx
end drosslaw13_BasisComplement
end Go.Own
