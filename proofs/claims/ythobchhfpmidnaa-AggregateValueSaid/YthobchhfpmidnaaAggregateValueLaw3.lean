/- What the functions that the law reaches answer. No conditions. -/
import Derived.Laws.Strings
import Derived.Test.YthobchhfpmidnaaAggregateValueLaw1
import Derived.Test.YthobchhfpmidnaaBase2
import Derived.Test.YthobchhfpmidnaaOwn25
set_option linter.all false
namespace Go.Own
def cmpI (a b:Int):Int:=if a<b then -1 else if b<a then 1 else 0
def ixFrom {α:Type} (p:α→Bool):List α→Nat→Int
 | [],_=>-1
 | a::r,k=>if p a=true then (k:Int) else ixFrom p r (k+1)
def ixI {α:Type} (p:α→Bool) (l:List α):Int:=ixFrom p l 0
theorem ixFrom_any {α:Type} {p:α→Bool}:∀ {l:List α} {k:Nat},decide (0≤ixFrom p l k)=l.any p
 | [],_=>rfl
 | a::r,k=>by
  simp only [ixFrom,List.any_cons]
  split
  ·rename_i h;simp [h]
  ·rename_i h
   rw [ixFrom_any,Bool.eq_false_iff.2 h];simp
theorem ixI_any {α:Type} {p:α→Bool} {l:List α}:decide (0≤ixI p l)=l.any p:=ixFrom_any
theorem index_loop {α : Type} {l : List α} {p : α → Bool} {L : Int → Prop} {φ : Int → Prop} (stop : φ (-1) → L (l.length : Int))
    (step : ∀ (k : Nat) a, l[k]? = some a → k < l.length → (if p a = true then φ (k : Int) else L ((k + 1 : Nat) : Int)) → L k) (h : φ (ixI p l)) : L 0 := by
  have : ∀ (r : List α) (k : Nat), l.drop k = r → k ≤ l.length → φ (ixFrom p r k) → L k := by
    intro r
    induction r with
    | nil => intro k hd hk h; have : k = l.length := by have := drop_ge hd; omega
             subst this; exact stop h
    | cons a r ih =>
      intro k hd hk h
      have hlt := drop_lt hd
      refine step k a (drop_get hd) hlt ?_
      simp only [ixFrom] at h
      split
      · rename_i hp; rw [if_pos hp] at h; exact h
      · rename_i hp; rw [if_neg hp] at h; exact ih (k + 1) (drop_next hd) hlt h
  exact this l 0 rfl (Nat.zero_le _) h
theorem all_loop {α : Type} {l : List α} {p : α → Bool} {L : Int → Prop} {φ : Bool → Prop} (stop : φ true → L (l.length : Int))
    (step : ∀ (k : Nat) a, l[k]? = some a → k < l.length → (if p a = true then L ((k + 1 : Nat) : Int) else φ false) → L k) (h : φ (l.all p)) : L 0 := by
  have : ∀ (r : List α) (k : Nat), l.drop k = r → k ≤ l.length → φ (r.all p) → L k := by
    intro r
    induction r with
    | nil => intro k hd hk h; have : k = l.length := by have := drop_ge hd; omega
             subst this; exact stop h
    | cons a r ih =>
      intro k hd hk h
      have hlt := drop_lt hd
      refine step k a (drop_get hd) hlt ?_
      simp only [List.all_cons] at h
      split
      · rename_i hp; rw [hp, Bool.true_and] at h; exact ih (k + 1) (drop_next hd) hlt h
      · rename_i hp
        have hp : p a = false := by simpa using hp
        rw [hp, Bool.false_and] at h; exact h
  exact this l 0 rfl (Nat.zero_le _) h
theorem lget_of {α:Type} {l:List α} {k:Nat} {a:α} (h:l[k]? = some a):lget l (k:Int)=some a:=by rw [lget_nat];exact h
theorem bl_eq {s:ByteArray}:s.toList=s.data.toList:=ByteArray.toList_eq s
theorem bl_inj {a b:ByteArray}:a.toList=b.toList↔a=b:=by
 constructor
 ·intro h
  rw [bl_eq,bl_eq] at h
  obtain ⟨⟨a⟩⟩:=a
  obtain ⟨⟨b⟩⟩:=b
  simp only at h
  rw [h]
 ·rintro rfl;rfl
theorem bsize_eq {s:ByteArray}:bsize s=(s.toList.length:Int):=by
 rw [bl_eq];rfl
theorem bget {s:ByteArray} {i:Nat}:s[i]? = s.toList[i]?:=by
 rw [bl_eq]
 by_cases h:i<s.size
 ·rw [getElem?_pos s i h,List.getElem?_eq_getElem (by exact h)]
  rfl
 ·rw [getElem?_neg s i h,List.getElem?_eq_none (by simpa using h)]
theorem bget_of {s:ByteArray} {k:Nat} {b:UInt8} (h:s.toList[k]? = some b):(0:Int)≤(k:Int)∧s[((k:Nat):Int).toNat]? = some b:=⟨by omega,by rw [Int.toNat_natCast,bget];exact h⟩
theorem bl_mk {l:List UInt8}:(⟨l.toArray⟩:ByteArray).toList=l:=by rw [bl_eq]
theorem u8i_lt {b:UInt8}:0≤u8i b∧u8i b<256:=by
 unfold u8i;have:=b.toNat_lt;omega
theorem u8i_inj {a b:UInt8}:u8i a=u8i b↔a=b:=by
 unfold u8i
 constructor
 ·intro h;exact UInt8.toNat_inj.1 (by omega)
 ·rintro rfl;rfl
end Go.Own
namespace Go.Own
def bitsOf (n:Nat):List Nat:=(List.range 32).filter fun i=>n.testBit i
def fullN (k:Nat):Nat:=2^min k 32-1
theorem fullN_lt {k:Nat}:fullN k<2^32:=by
 unfold fullN
 have:2^min k 32≤2^32:=Nat.pow_le_pow_right (by decide) (Nat.min_le_right _ _)
 have h2:0<2^min k 32:=Nat.pos_of_ne_zero (by simp)
 omega
end Go.Own
namespace Go.Own
end Go.Own
