/- An interpreter of function bodies, sound. No conditions. -/
import Derived.Laws.BitsLemmas
import Derived.Test.YtockohmmmlhhfabGreatDoorOwn17
import Derived.Test.YtockohmmmlhhfabGreatDoorOwn19
set_option linter.all false
namespace Go.Own
theorem Aas {α:Type} {l:List α} {k:Nat} {x:α} {r:List α} (h:l.drop k=x::r):l[k]? = some x:=by
 have:(l.drop k)[0]? = some x:=by rw [h];rfl
 simpa using this
theorem Aah {α:Type} {l:List α} {k:Nat} {x:α} {r:List α} (h:l.drop k=x::r):l.drop (k+1)=r:=by
 have:(l.drop k).drop 1=r:=by rw [h];rfl
 rw [List.drop_drop] at this;exact this
theorem Abh {α:Type} {l:List α} {k:Nat} {x:α} {r:List α} (h:l.drop k=x::r):k<l.length:=by
 rcases Nat.lt_or_ge k l.length with hk | hk
 ·exact hk
 ·rw [List.drop_eq_nil_of_le hk] at h;cases h
theorem Abg {α:Type} {l:List α} {k:Nat} (h:l.drop k=[]):l.length<=k:=by simpa using h
theorem Ac0 {α:Type} {l:List α} {k:Nat} {x:α} {r:List α} (h:l.drop k=x::r):lget l (k:Int)=some x:=by
 simp [lget,Aas h]
theorem Af1 {α:Type} {l:List α} {k:Nat}:lget l (k:Int)=l[k]?:=by simp [lget]
theorem Bdg {α:Type} {l:List α} {i:Int} (h0:0<=i) (h:i<l.length):∃ a,lget l i=some a:=by
 refine ⟨l[i.toNat]'(by omega),?_⟩;unfold lget;rw [if_pos h0,List.getElem?_eq_getElem]
theorem Avw {α:Type} {l:List α} {i:Int} {a:α}:(lset l i a).length=l.length:=by simp [lset]
theorem Abw {x:Int} (h : -9223372036854775808<=x) (h2:x<9223372036854775808):IntKind.wrap .i64 x=x:=by
 rw [IntKind.wrap_i64];omega
theorem Aa6 {n:Nat} (h:n+1<9223372036854775808):IntKind.wrap .i64 ((n:Int)+1)=((n+1:Nat):Int):=by
 rw [Abw]<;>omega
abbrev Big:Nat:=9223372036854775808
end Go.Own
namespace Go.Own
end Go.Own
namespace Go.Own
open D
abbrev Key3:=ByteArray×ByteArray×ByteArray
def grpH (L:List Key3) (s:ByteArray):List Key3:=L.filter fun y=>y.1 == s
end Go.Own
