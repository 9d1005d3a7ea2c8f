/- What the functions that the law reaches answer. No conditions. -/
import Derived.Laws.Strings
import Derived.Test.YtbemcminbfhakaaDoorBasisErrorsLaw2
import Derived.Test.YtbemcminbfhakaaDoorBase1
import Derived.Test.YtbemcminbfhakaaDoorOwn25
set_option linter.all false
namespace Go.Own
def ixFrom {α:Type} (p:α→Bool):List α→Nat→Int
 | [],_=>-1
 | a::r,k=>if p a=true then (k:Int) else ixFrom p r (k+1)
def ixI {α:Type} (p:α→Bool) (l:List α):Int:=ixFrom p l 0
theorem index_loop {α : Type} {l : List α} {p : α → Bool} {L : Int → Prop} {φ : Int → Prop} (stop : φ (-1) → L (l.length : Int))
    (step : ∀ (k : Nat) a, l[k]? = some a → k < l.length → (if p a = true then φ (k : Int) else L ((k + 1 : Nat) : Int)) → L k) (h : φ (ixI p l)) : L 0 := by
  have : ∀ (r : List α) (k : Nat), l.drop k = r → k ≤ l.length → φ (ixFrom p r k) → L k := by
    intro r
    induction r with
    | nil => intro k hd hk h; have : k = l.length := by have := drop_ge hd; omega
             subst this; exact stop h
    | cons a r ih =>
      intro k hd hk h
      have hlt := drop_lt hd
      refine step k a (drop_get hd) hlt ?_
      simp only [ixFrom] at h
      split
      · rename_i hp; rw [if_pos hp] at h; exact h
      · rename_i hp; rw [if_neg hp] at h; exact ih (k + 1) (drop_next hd) hlt h
  exact this l 0 rfl (Nat.zero_le _) h
theorem all_loop {α : Type} {l : List α} {p : α → Bool} {L : Int → Prop} {φ : Bool → Prop} (stop : φ true → L (l.length : Int))
    (step : ∀ (k : Nat) a, l[k]? = some a → k < l.length → (if p a = true then L ((k + 1 : Nat) : Int) else φ false) → L k) (h : φ (l.all p)) : L 0 := by
  have : ∀ (r : List α) (k : Nat), l.drop k = r → k ≤ l.length → φ (r.all p) → L k := by
    intro r
    induction r with
    | nil => intro k hd hk h; have : k = l.length := by have := drop_ge hd; omega
             subst this; exact stop h
    | cons a r ih =>
      intro k hd hk h
      have hlt := drop_lt hd
      refine step k a (drop_get hd) hlt ?_
      simp only [List.all_cons] at h
      split
      · rename_i hp; rw [hp, Bool.true_and] at h; exact ih (k + 1) (drop_next hd) hlt h
      · rename_i hp
        have hp : p a = false := by simpa using hp
        rw [hp, Bool.false_and] at h; exact h
  exact this l 0 rfl (Nat.zero_le _) h
theorem lget_of {α:Type} {l:List α} {k:Nat} {a:α} (h:l[k]? = some a):lget l (k:Int)=some a:=by rw [lget_nat];exact h
end Go.Own
namespace Go.Own
def fullN (k:Nat):Nat:=2^min k 32-1
theorem fullN_bit {k i:Nat}:(fullN k).testBit i=decide (i<min k 32):=by
 unfold fullN;rw [Nat.testBit_two_pow_sub_one]
theorem fullN_lt {k:Nat}:fullN k<2^32:=by
 unfold fullN
 have:2^min k 32≤2^32:=Nat.pow_le_pow_right (by decide) (Nat.min_le_right _ _)
 have h2:0<2^min k 32:=Nat.pos_of_ne_zero (by simp)
 omega
end Go.Own
namespace Go.Own
def sN (x:Int):Nat:=x.toNat
def U32 (x:Int):Prop:=0≤x∧x<4294967296
theorem U32.eq {x:Int} (h:U32 x):x=(sN x:Int):=by have:=h.1;unfold sN;omega
theorem U32.lt {x:Int} (h:U32 x):sN x<2^32:=by have:=h.1;have:=h.2;unfold sN;omega
theorem U32.top {x:Int} (h:U32 x):sN x<2^top .u32:=by simpa [Go.Own.top] using h.lt
theorem U32.of {n:Nat} (h:n<2^32):U32 (n:Int):=⟨by omega,by omega⟩
end Go.Own
namespace Go.Own
end Go.Own
namespace Go.Own
end Go.Own
namespace Go.Own
end Go.Own
