/- An interpreter of function bodies, sound. No conditions. -/
import Derived.Laws.BitsLemmas
import Derived.Test.YtockohmmmlhhfacGreatDoorOwn17
set_option linter.all false
namespace Go.Own
theorem Aap {α:Type} {l:List α} {k:Nat} {x:α} {r:List α} (h:l.drop k=x::r):l[k]? = some x:=by
 have:(l.drop k)[0]? = some x:=by rw [h];rfl
 simpa using this
theorem Aah {α:Type} {l:List α} {k:Nat} {x:α} {r:List α} (h:l.drop k=x::r):l.drop (k+1)=r:=by
 have:(l.drop k).drop 1=r:=by rw [h];rfl
 rw [List.drop_drop] at this;exact this
theorem Ab4 {α:Type} {l:List α} {k:Nat} {x:α} {r:List α} (h:l.drop k=x::r):k<l.length:=by
 rcases Nat.lt_or_ge k l.length with hk | hk
 ·exact hk
 ·rw [List.drop_eq_nil_of_le hk] at h;cases h
theorem Ab3 {α:Type} {l:List α} {k:Nat} (h:l.drop k=[]):l.length<=k:=by simpa using h
theorem Acs {α:Type} {l:List α} {k:Nat} {x:α} {r:List α} (h:l.drop k=x::r):lget l (k:Int)=some x:=by
 simp [lget,Aap h]
theorem Abx {α:Type} {l:List α} {k:Nat}:lget l (k:Int)=l[k]?:=by simp [lget]
theorem Afv {α:Type} {l:List α} {i:Int} (h0:0<=i) (h:i<l.length):∃ a,lget l i=some a:=by
 refine ⟨l[i.toNat]'(by omega),?_⟩;unfold lget;rw [if_pos h0,List.getElem?_eq_getElem]
theorem Abh {α:Type} {l:List α} {i:Int} {a:α}:(lset l i a).length=l.length:=by simp [lset]
theorem Ajd {α:Type} {l:List α} {i j:Int} {a:α} (hi:0<=i) (hj:0<=j):lget (lset l i a) j=if i=j then (if i<l.length then some a else none) else lget l j:=by
 simp only [lget,lset,if_pos hj,List.getElem?_set];by_cases h:i=j
 ·subst h;simp only [if_true];by_cases h2:i<l.length
  ·have:i.toNat<l.length:=by omega
   simp [h2,this]
  ·have:¬ i.toNat<l.length:=by omega
   simp [h2,this]
 ·have:¬ i.toNat=j.toNat:=by omega
  simp [h,this]
theorem Abz {x:Int} (h : -9223372036854775808<=x) (h2:x<9223372036854775808):IntKind.wrap .i64 x=x:=by
 rw [IntKind.wrap_i64];omega
theorem Aa4 {n:Nat} (h:n+1<9223372036854775808):IntKind.wrap .i64 ((n:Int)+1)=((n+1:Nat):Int):=by
 rw [Abz]<;>omega
abbrev Big:Nat:=9223372036854775808
end Go.Own
namespace Go.Own
theorem Bct (a b:Int):imax a b=max a b:=by unfold imax;omega
theorem Bcu (a b:Int):imin a b=min a b:=by unfold imin;omega
end Go.Own
