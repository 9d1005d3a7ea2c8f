/- What the functions that the law reaches answer. No conditions. -/
import Derived.Test.YtjiphhbagdangaaArmstrongMeetLaw11
import Derived.Test.YtjiphhbagdangaaOwn34
import Derived.Test.YtjiphhbagdangaaArmstrongMeetLaw6
import Derived.Test.YtjiphhbagdangaaArmstrongMeetLaw3
set_option linter.all false

namespace Go.Own
def depL (n : Nat) (L : List drossref09_Dep) : List api_FD := L.map fun x => { Lhs := ((sN x.L &&& (2 ^ n - 1) : Nat) : Int), Rhs := ((sN x.R &&& (2 ^ n - 1) : Nat) : Int) }
def DepOK (L : List drossref09_Dep) : Prop := ∀ x ∈ L, (0 ≤ x.L ∧ x.L < 256) ∧ 0 ≤ x.R ∧ x.R < 256
theorem dep_and {x : Int} (h : 0 ≤ x ∧ x < 256) {n : Nat} (hn : n ≤ 16) : bAnd .u32 (IntKind.wrap .u32 x) ((2 ^ n - 1 : Nat) : Int) = ((sN x &&& (2 ^ n - 1) : Nat) : Int) := by
  have hp := pow16 hn
  have e : x = ((sN x : Nat) : Int) := by unfold sN; omega
  have e2 : IntKind.wrap .u32 x = ((sN x : Nat) : Int) := by
    conv => lhs; rw [e]
    exact wrap_top (k := .u32) (by simp only [top]; unfold sN; omega)
  rw [e2]
  exact bAnd_nat (k := .u32) (by simp only [top]; unfold sN; omega) (by simp only [top]; omega)
theorem and_pow {x n : Nat} : x &&& (2 ^ n - 1) < 2 ^ n := by
  have := Nat.and_le_right (n := x) (m := 2 ^ n - 1)
  have : 0 < 2 ^ n := Nat.pow_pos (by omega)
  omega
theorem drossref09_List.spec {n : Nat} {L : List drossref09_Dep} (hn : n ≤ 16) (hL : DepOK L) (hlen : L.length ≤ 4000000) : drossref09_List.C n L (depL n L) := by
  obtain ⟨r, h1, h2⟩ := drossref09_List.enter n L (fun r => r = depL n L) (by
    refine ⟨_, full_spec hn, ?_⟩
    have : ∀ (r : List drossref09_Dep) (k : Nat), L.drop k = r → k ≤ L.length → drossref09_List.L1 L ((2 ^ n - 1 : Nat) : Int) (depL n (L.take k)) k (fun r => r = depL n L) := by
      intro r
      induction r with
      | nil =>
        intro k hd hk
        have := drop_ge hd
        apply drossref09_List.L1_step
        rw [if_neg (by omega), List.take_of_length_le (by omega)]
      | cons x r ih =>
        intro k hd hk
        have hlt := drop_lt hd
        have hx := hL x (List.mem_of_getElem? (drop_get hd))
        have next := ih (k + 1) (drop_next hd) (by omega)
        rw [List.take_add_one, drop_get hd, Option.toList_some] at next
        unfold depL at next
        rw [List.map_append, List.map_cons, List.map_nil] at next
        apply drossref09_List.L1_step
        rw [if_pos (by omega)]
        refine ⟨x, lget_drop hd, ?_⟩
        rw [dep_and hx.1 hn, dep_and hx.2 hn, wrap_succ (by omega)]
        exact ⟨by unfold depL; rw [List.length_map, List.length_take]; omega, next⟩
    exact this L 0 rfl (Nat.zero_le _))
  rw [← h1]; exact h2
def depN (N : Int) : Nat := (N % 7).toNat
theorem depN_lt {N : Int} : depN N ≤ 6 := by unfold depN; omega
theorem drossref09_Of.spec {d : drossref09_Deps} (hN : 0 ≤ d.N ∧ d.N < 256) (hL : DepOK d.L) (hlen : d.L.length ≤ 4000000) : drossref09_Of.C d (((depN d.N : Nat) : Int), depL (depN d.N) d.L, decide ((d.L.length : Int) ≤ 6)) := by
  obtain ⟨r, h1, h2⟩ := drossref09_Of.enter d (fun r => r = (((depN d.N : Nat) : Int), depL (depN d.N) d.L, decide ((d.L.length : Int) ≤ 6))) (by
    have e : IntKind.wrap .i64 (Int.tmod d.N 7) = ((depN d.N : Nat) : Int) := by
      rw [Int.tmod_eq_emod_of_nonneg hN.1]
      have : d.N % 7 = ((depN d.N : Nat) : Int) := by unfold depN; omega
      rw [this]
      exact wrap_top (k := .i64) (by simp only [top]; have := depN_lt (N := d.N); omega)
    rw [e]
    exact ⟨_, drossref09_List.spec (by have := depN_lt (N := d.N); omega) hL hlen, rfl⟩)
  rw [← h1]; exact h2
theorem wtLL_len : ∀ (es : List (List D)), es.length ≤ wtLL es
  | [] => Nat.le_refl _
  | x :: r => by simp only [wtLL, List.length_cons]; have := wtLL_len r; omega
theorem depL_ok {n : Nat} {L : List drossref09_Dep} (hn : n ≤ 16) : FdOK (depL n L) := fun d hd => by
  obtain ⟨x, _, rfl⟩ := List.mem_map.1 hd
  have hp := pow16 hn
  exact ⟨U32.of (Nat.lt_of_lt_of_le and_pow (by omega)), U32.of (Nat.lt_of_lt_of_le and_pow (by omega))⟩
theorem depL_len {n : Nat} {L : List drossref09_Dep} : (depL n L).length = L.length := by simp [depL]
theorem depL_err {n : Nat} {L : List drossref09_Dep} (hn : n ≤ 6) (hl : L.length ≤ 6) : errA (n : Int) (depL n L) = 0 := by
  have h0 : fdsE (n : Int) (depL n L) = 0 := by
    unfold fdsE
    rw [if_neg (by omega), if_neg (by rw [depL_len]; omega), if_pos]
    rw [List.all_eq_true]
    intro d hd
    obtain ⟨x, _, rfl⟩ := List.mem_map.1 hd
    unfold inU
    rw [sN_nat, sN_nat, Int.toNat_natCast, decide_eq_true and_pow, decide_eq_true and_pow]; rfl
  unfold errA
  rw [if_pos h0, if_neg (by omega)]
end Go.Own

namespace Go.Own
theorem drossref19_Closed.spec {n : Int} {l : List api_FD} (hl : FdOK l) (hn : l.length < 1000000000) (h0 : errA n l = 0) : drossref19_Closed.C n l (closedL n.toNat l) := by
  have hc := drossref09_Closed.spec (n := n) hl hn
  rw [closedE_ok h0] at hc
  obtain ⟨q, q1, q2⟩ := drossref19_Closed.enter n l (fun r => r = closedL n.toNat l) ⟨_, hc, rfl⟩
  subst q1; exact q2
theorem maxF_ok {n a : Nat} {l : List api_FD} (h0 : errA (n : Int) l = 0) (ha : a < n) : maxF (n : Int) l (a : Int) = (fMaximal (candL n l a (2 ^ n)), 0) := by
  unfold maxF
  rw [if_pos h0, if_neg (by omega), Int.toNat_natCast, Int.toNat_natCast]
namespace drosslaw19_ArmstrongMeet
theorem again {φ : Bool → Prop} (h : φ true) : L2 φ := L2_step φ ⟨true, drosslaw19_awake.spec, h⟩
theorem meet {n : Nat} {l : List api_FD} {s : Int} {ok : Bool} {k : Nat} {φ : Bool → Prop} (hn : n ≤ 10) (hk : k < 2000) (hs : s ∈ closedL n l)
    (h : L1 (n, l, ok) (irrL n (closedL n l), 0) (closedL n l) ((k + 1 : Nat) : Int) φ) : ∀ (r : List Int) (i : Nat) (m : Int), (irrL n (closedL n l)).drop i = r → meetG s m r = s → L3 (n, l, ok) (irrL n (closedL n l), 0) s m (closedL n l) k i φ
  | [], i, m, hd, he => by
    have := drop_ge hd
    have he : m = s := he
    apply L3_step
    rw [if_neg (by show ¬ ((i : Int) < ((irrL n (closedL n l)).length : Int)); omega), if_pos he, wrap_succ (by omega)]
    exact h
  | c :: r, i, m, hd, he => by
    have hlt := drop_lt hd
    have hsu := closedL_all (l := l) hn s hs
    have hl2 : (irrL n (closedL n l)).length ≤ 1024 := Nat.le_trans (List.length_filter_le _ _) (closedL_len hn)
    have hc : U32 c := closedL_all hn c (List.mem_filter.1 (List.mem_of_getElem? (drop_get hd))).1
    have next : L5 (n, l, ok) (irrL n (closedL n l), 0) s (meetT s m c) (closedL n l) k i φ := by
      apply L5_step
      rw [wrap_succ (by omega)]
      exact meet hn hk hs h r (i + 1) _ (drop_next hd) he
    apply L3_step
    rw [if_pos (by show (i : Int) < ((irrL n (closedL n l)).length : Int); omega)]
    refine ⟨c, lget_drop hd, _, sub_two hsu hc, ?_⟩
    unfold meetT at next
    split
    · rename_i hb
      rw [if_pos (of_decide_eq_true hb)] at next; exact next
    · rename_i hb
      rw [if_neg (fun hh => hb (decide_eq_true hh))] at next; exact next
theorem closed {n : Nat} {l : List api_FD} {ok : Bool} {φ : Bool → Prop} (hn : n ≤ 10) (h : L4 (n, l, ok) (irrL n (closedL n l), 0) [] 0 φ) : ∀ (r : List Int) (k : Nat), (closedL n l).drop k = r → L1 (n, l, ok) (irrL n (closedL n l), 0) (closedL n l) k φ
  | [], k, hd => by
    have := drop_ge hd
    apply L1_step
    rw [if_neg (by omega)]; exact h
  | s :: r, k, hd => by
    have hlt := drop_lt hd
    have hl2 := closedL_len (l := l) hn
    have hs : s ∈ closedL n l := List.mem_of_getElem? (drop_get hd)
    apply L1_step
    rw [if_pos (by omega)]
    refine ⟨s, lget_drop hd, _, full_spec (by omega), ?_⟩
    exact meet hn (by omega) hs (closed hn h r (k + 1) (drop_next hd)) _ 0 _ rfl (meet_closed hn hs)
theorem all {n : Nat} {l : List api_FD} {ok : Bool} (hn : n ≤ 10) (hl : FdOK l) (hlen : l.length < 1000000000) (h0 : errA (n : Int) l = 0) : ∀ (d a : Nat), d + a = n → L4 (n, l, ok) (irrL n (closedL n l), 0) (allF n l a) a (fun r => r = true)
  | 0, a, hd => by
    have : a = n := by omega
    subst this
    have := allF_len (l := l) hn (c := a)
    apply L4_step
    rw [if_neg (by show ¬ ((a : Int) < (a : Int)); omega)]
    refine ⟨_, drossref02_Order.spec (by omega) (allF_all (by omega)), ?_⟩
    have hf : FdIn a l := by
      have := fdsE_in (errA_n h0).2.2
      rwa [Int.toNat_natCast] at this
    rw [all_irr hn hf]
    have hl2 : (irrL a (closedL a l)).length ≤ 1024 := Nat.le_trans (List.length_filter_le _ _) (closedL_len hn)
    exact ⟨_, drossref02_Same.spec (by omega), decide_eq_true rfl⟩
  | d + 1, a, hd => by
    have := allF_len (l := l) hn (c := a)
    have := maxL_len (l := l) hn (c := a)
    have hm := armstrong_MaxSets.spec (n := n) (a := (a : Int)) hl hlen
    rw [maxF_ok h0 (by omega)] at hm
    have next := all hn hl hlen h0 d (a + 1) (by omega) (ok := ok)
    rw [allF_succ] at next
    apply L4_step
    rw [if_pos (by show (a : Int) < (n : Int); omega)]
    refine ⟨_, hm, ?_⟩
    rw [if_pos rfl, wrap_succ (by omega)]
    exact ⟨by simp only; omega, next⟩
theorem spec (d : drossref09_Deps) (hN : 0 ≤ d.N ∧ d.N < 256) (hL : DepOK d.L) (hlen : d.L.length ≤ 4000000) : C d true := by
  obtain ⟨r, h1, h2⟩ := enter d (fun r => r = true) (by
    refine ⟨_, drossref09_Of.spec hN hL hlen, true, drosslaw19_awake.spec, ?_⟩
    rw [if_pos rfl]
    by_cases h6 : (d.L.length : Int) ≤ 6
    · rw [if_pos (decide_eq_true h6)]
      have hn6 := depN_lt (N := d.N)
      have h0 := depL_err (n := depN d.N) (L := d.L) hn6 (by omega)
      have hok := depL_ok (n := depN d.N) (L := d.L) (by omega)
      have hll : (depL (depN d.N) d.L).length < 1000000000 := by rw [depL_len]; omega
      refine ⟨_, armstrong_Irreducible.spec hok hll, ?_⟩
      have e : irrF ((depN d.N : Nat) : Int) (depL (depN d.N) d.L) = (irrL (depN d.N) (closedL (depN d.N) (depL (depN d.N) d.L)), 0) := by
        unfold irrF; rw [if_pos h0, Int.toNat_natCast]
      rw [e, if_pos rfl]
      have hc := drossref19_Closed.spec hok hll h0
      rw [Int.toNat_natCast] at hc
      exact ⟨_, hc, closed (by omega) (all (by omega) hok hll h0 _ 0 rfl) _ 0 rfl⟩
    · rw [if_neg (by simpa using h6)]
      exact again rfl)
  subst h1; exact h2
theorem law {xs : List D} (hx : TyAll env.P drosslaw19_ArmstrongMeet_K drosslaw19_ArmstrongMeet_T xs) (hw : wtL xs ≤ 1048576) : Ret env drosslaw19_ArmstrongMeet_F xs (.lit (.bool true)) [] := by
  obtain ⟨x0, h0, e⟩ := drosslaw19_ArmstrongMeet_args (P := env.P) tf hx
  rw [e] at hw ⊢
  have hlen : x0.L.length ≤ 4000000 := by
    have h1 := wtLL_len (x0.L.map enc_drossref09_Dep)
    rw [List.length_map] at h1
    simp only [enc_drossref09_Deps, wtL, wt] at hw
    omega
  exact spec x0 (u8_of h0.1) (fun x hx => ⟨u8_of (h0.2.2 x hx).1, u8_of (h0.2.2 x hx).2⟩) hlen
end drosslaw19_ArmstrongMeet
end Go.Own
