/- What the functions that the law reaches answer. No conditions. -/
import Derived.Laws.Strings
import Derived.Test.YtbemcminbfhakaaDoorRefuteTwoLaw3
import Derived.Test.YtbemcminbfhakaaDoorBase1
import Derived.Test.YtbemcminbfhakaaDoorOwn25
set_option linter.all false
namespace Go.Own
def cmpI (a b:Int):Int:=if a<b then -1 else if b<a then 1 else 0
theorem down {n : Nat} {P : Nat → Prop} (h0 : P n) (hs : ∀ k, k < n → P (k + 1) → P k) : ∀ k, k ≤ n → P k := by
  have : ∀ m k, k + m = n → P k := by
    intro m
    induction m with
    | zero => intro k hk; have : k = n := by omega
              subst this; exact h0
    | succ m ih => intro k hk; exact hs k (by omega) (ih (k + 1) (by omega))
  intro k hk
  exact this (n - k) k (by omega)
def ixFrom {α:Type} (p:α→Bool):List α→Nat→Int
 | [],_=>-1
 | a::r,k=>if p a=true then (k:Int) else ixFrom p r (k+1)
def ixI {α:Type} (p:α→Bool) (l:List α):Int:=ixFrom p l 0
theorem index_loop {α : Type} {l : List α} {p : α → Bool} {L : Int → Prop} {φ : Int → Prop} (stop : φ (-1) → L (l.length : Int))
    (step : ∀ (k : Nat) a, l[k]? = some a → k < l.length → (if p a = true then φ (k : Int) else L ((k + 1 : Nat) : Int)) → L k) (h : φ (ixI p l)) : L 0 := by
  have : ∀ (r : List α) (k : Nat), l.drop k = r → k ≤ l.length → φ (ixFrom p r k) → L k := by
    intro r
    induction r with
    | nil => intro k hd hk h; have : k = l.length := by have := drop_ge hd; omega
             subst this; exact stop h
    | cons a r ih =>
      intro k hd hk h
      have hlt := drop_lt hd
      refine step k a (drop_get hd) hlt ?_
      simp only [ixFrom] at h
      split
      · rename_i hp; rw [if_pos hp] at h; exact h
      · rename_i hp; rw [if_neg hp] at h; exact ih (k + 1) (drop_next hd) hlt h
  exact this l 0 rfl (Nat.zero_le _) h
theorem all_loop {α : Type} {l : List α} {p : α → Bool} {L : Int → Prop} {φ : Bool → Prop} (stop : φ true → L (l.length : Int))
    (step : ∀ (k : Nat) a, l[k]? = some a → k < l.length → (if p a = true then L ((k + 1 : Nat) : Int) else φ false) → L k) (h : φ (l.all p)) : L 0 := by
  have : ∀ (r : List α) (k : Nat), l.drop k = r → k ≤ l.length → φ (r.all p) → L k := by
    intro r
    induction r with
    | nil => intro k hd hk h; have : k = l.length := by have := drop_ge hd; omega
             subst this; exact stop h
    | cons a r ih =>
      intro k hd hk h
      have hlt := drop_lt hd
      refine step k a (drop_get hd) hlt ?_
      simp only [List.all_cons] at h
      split
      · rename_i hp; rw [hp, Bool.true_and] at h; exact ih (k + 1) (drop_next hd) hlt h
      · rename_i hp
        have hp : p a = false := by simpa using hp
        rw [hp, Bool.false_and] at h; exact h
  exact this l 0 rfl (Nat.zero_le _) h
theorem lget_of {α:Type} {l:List α} {k:Nat} {a:α} (h:l[k]? = some a):lget l (k:Int)=some a:=by rw [lget_nat];exact h
theorem bl_eq {s:ByteArray}:s.toList=s.data.toList:=ByteArray.toList_eq s
theorem bl_inj {a b:ByteArray}:a.toList=b.toList↔a=b:=by
 constructor
 ·intro h
  rw [bl_eq,bl_eq] at h
  obtain ⟨⟨a⟩⟩:=a
  obtain ⟨⟨b⟩⟩:=b
  simp only at h
  rw [h]
 ·rintro rfl;rfl
theorem bsize_eq {s:ByteArray}:bsize s=(s.toList.length:Int):=by
 rw [bl_eq];rfl
theorem bget {s:ByteArray} {i:Nat}:s[i]? = s.toList[i]?:=by
 rw [bl_eq]
 by_cases h:i<s.size
 ·rw [getElem?_pos s i h,List.getElem?_eq_getElem (by exact h)]
  rfl
 ·rw [getElem?_neg s i h,List.getElem?_eq_none (by simpa using h)]
theorem bget_of {s:ByteArray} {k:Nat} {b:UInt8} (h:s.toList[k]? = some b):(0:Int)≤(k:Int)∧s[((k:Nat):Int).toNat]? = some b:=⟨by omega,by rw [Int.toNat_natCast,bget];exact h⟩
theorem bl_mk {l:List UInt8}:(⟨l.toArray⟩:ByteArray).toList=l:=by rw [bl_eq]
theorem u8i_lt {b:UInt8}:0≤u8i b∧u8i b<256:=by
 unfold u8i;have:=b.toNat_lt;omega
theorem u8i_inj {a b:UInt8}:u8i a=u8i b↔a=b:=by
 unfold u8i
 constructor
 ·intro h;exact UInt8.toNat_inj.1 (by omega)
 ·rintro rfl;rfl
theorem sorted_ext {l m:List Nat} (hl:l.Pairwise (·<·)) (hm:m.Pairwise (·<·)) (h:∀ x,x∈l↔x∈m):l=m:=by
 induction l generalizing m with
 | nil=>
  cases m with
  | nil=>rfl
  | cons b m=>have:=(h b).2 (by simp);simp at this
 | cons a l ih=>
  cases m with
  | nil=>have:=(h a).1 (by simp);simp at this
  | cons b m=>
   have ha:=List.pairwise_cons.1 hl
   have hb:=List.pairwise_cons.1 hm
   have e:a=b:=by
    rcases List.mem_cons.1 ((h a).1 (by simp)) with h1 | h1
    ·exact h1
    ·rcases List.mem_cons.1 ((h b).2 (by simp)) with h2 | h2
     ·exact h2.symm
     ·have:=hb.1 a h1;have:=ha.1 b h2;omega
   subst e
   rw [ih ha.2 hb.2]
   intro x
   constructor
   ·intro hx
    rcases List.mem_cons.1 ((h x).1 (by simp [hx])) with h1 | h1
    ·subst h1;have:=ha.1 x hx;omega
    ·exact h1
   ·intro hx
    rcases List.mem_cons.1 ((h x).2 (by simp [hx])) with h1 | h1
    ·subst h1;have:=hb.1 x hx;omega
    ·exact h1
end Go.Own
namespace Go.Own
def bitsOf (n:Nat):List Nat:=(List.range 32).filter fun i=>n.testBit i
theorem bitsOf_mem {n i:Nat} (h:n<2^32):i∈bitsOf n↔n.testBit i=true:=by
 unfold bitsOf
 simp only [List.mem_filter,List.mem_range]
 constructor
 ·exact fun h=>h.2
 ·intro hi
  refine ⟨?_,hi⟩
  false_or_by_contra
  rename_i hn
  rw [Nat.testBit_lt_two_pow (Nat.lt_of_lt_of_le h (Nat.pow_le_pow_right (by decide) (by omega)))] at hi
  cases hi
theorem bitsOf_sorted {n:Nat}:(bitsOf n).Pairwise (·<·):=List.pairwise_lt_range.filter _
theorem bitsOf_len {n:Nat}:(bitsOf n).length≤32:=Nat.le_trans (List.length_filter_le _ _) (by simp)
def fullN (k:Nat):Nat:=2^min k 32-1
end Go.Own
namespace Go.Own
def sN (x:Int):Nat:=x.toNat
def U32 (x:Int):Prop:=0≤x∧x<4294967296
theorem U32.eq {x:Int} (h:U32 x):x=(sN x:Int):=by have:=h.1;unfold sN;omega
theorem U32.lt {x:Int} (h:U32 x):sN x<2^32:=by have:=h.1;have:=h.2;unfold sN;omega
theorem U32.top {x:Int} (h:U32 x):sN x<2^top .u32:=by simpa [Go.Own.top] using h.lt
theorem U32.of {n:Nat} (h:n<2^32):U32 (n:Int):=⟨by omega,by omega⟩
theorem sN_nat {n:Nat}:sN (n:Int)=n:=Int.toNat_natCast n
end Go.Own
namespace Go.Own
def szN (n:Nat):Nat:=(bitsOf n).length
end Go.Own
namespace Go.Own
end Go.Own
namespace Go.Own
end Go.Own
namespace Go.Own
end Go.Own
namespace Go.Own
end Go.Own
