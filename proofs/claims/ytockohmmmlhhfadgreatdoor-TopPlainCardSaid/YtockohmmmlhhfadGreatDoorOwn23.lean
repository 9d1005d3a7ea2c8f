/- An interpreter of function bodies, sound. No conditions. -/
import Derived.Laws.BitsLemmas
import Derived.Test.YtockohmmmlhhfadGreatDoorOwn17
import Derived.Test.YtockohmmmlhhfadGreatDoorOwn19
set_option linter.all false
namespace Go.Own
theorem Aae {α:Type} {l:List α} {k:Nat} {x:α} {r:List α} (h:l.drop k=x::r):l[k]? = some x:=by
 have:(l.drop k)[0]? = some x:=by rw [h];rfl
 simpa using this
theorem Aa8 {α:Type} {l:List α} {k:Nat} {x:α} {r:List α} (h:l.drop k=x::r):l.drop (k+1)=r:=by
 have:(l.drop k).drop 1=r:=by rw [h];rfl
 rw [List.drop_drop] at this;exact this
theorem Aas {α:Type} {l:List α} {k:Nat} {x:α} {r:List α} (h:l.drop k=x::r):k<l.length:=by
 rcases Nat.lt_or_ge k l.length with hk | hk
 ·exact hk
 ·rw [List.drop_eq_nil_of_le hk] at h;cases h
theorem Aar {α:Type} {l:List α} {k:Nat} (h:l.drop k=[]):l.length<=k:=by simpa using h
theorem Aaz {α:Type} {l:List α} {k:Nat} {x:α} {r:List α} (h:l.drop k=x::r):lget l (k:Int)=some x:=by
 simp [lget,Aae h]
theorem Ab5 {α:Type} {l:List α} {k:Nat}:lget l (k:Int)=l[k]?:=by simp [lget]
theorem Afp {α:Type} {l:List α} {i:Int} (h0:0<=i) (h:i<l.length):∃ a,lget l i=some a:=by
 refine ⟨l[i.toNat]'(by omega),?_⟩;unfold lget;rw [if_pos h0,List.getElem?_eq_getElem]
theorem Abr {α:Type} {l:List α} {i:Int} {a:α}:(lset l i a).length=l.length:=by simp [lset]
theorem Akg {α:Type} {l:List α} {i j:Int} {a:α} (hi:0<=i) (hj:0<=j):lget (lset l i a) j=if i=j then (if i<l.length then some a else none) else lget l j:=by
 simp only [lget,lset,if_pos hj,List.getElem?_set];by_cases h:i=j
 ·subst h;simp only [if_true];by_cases h2:i<l.length
  ·have:i.toNat<l.length:=by omega
   simp [h2,this]
  ·have:¬ i.toNat<l.length:=by omega
   simp [h2,this]
 ·have:¬ i.toNat=j.toNat:=by omega
  simp [h,this]
theorem Ac7 {x:Int} (h : -9223372036854775808<=x) (h2:x<9223372036854775808):IntKind.wrap .i64 x=x:=by
 rw [IntKind.wrap_i64];omega
theorem Aa4 {n:Nat} (h:n+1<9223372036854775808):IntKind.wrap .i64 ((n:Int)+1)=((n+1:Nat):Int):=by
 rw [Ac7]<;>omega
abbrev Big:Nat:=9223372036854775808
end Go.Own
namespace Go.Own
end Go.Own
namespace Go.Own
open D
abbrev Key3:=ByteArray×ByteArray×ByteArray
def grpH (L:List Key3) (s:ByteArray):List Key3:=L.filter fun y=>y.1 == s
end Go.Own
