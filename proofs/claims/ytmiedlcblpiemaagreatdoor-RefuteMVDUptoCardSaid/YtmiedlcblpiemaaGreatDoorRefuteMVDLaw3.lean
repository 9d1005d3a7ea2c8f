/- What the functions answer. No conditions. -/
import Derived.Sort.AssemblyPlain
import Derived.Sort.LotC
import Derived.Sort.LotD3
import Derived.Test.YtmiedlcblpiemaaGreatDoorOwn24
set_option linter.all false
namespace Go.Own
open Go.Sort
def wn{x:Int}{n:Nat}(h:x=n)(hn:n<9223372036854775808):IntKind.wrap .i64 x=n:=by rw[h];exact Af4 (by omega) (by omega)
def wx(x:Int)(n:Nat)(h:x=n)(hn:n<9223372036854775808):IntKind.wrap .i64 x=n:=wn h hn
def AllA(p:Int->Prop)(d:Array Int):Prop:=∀i,i<d.size->p d[i]!
def ag{d:Array Int}{i:Nat}(h:i<d.size):lget d.toList (i:Int)=some d[i]!:=by
 rw[Ac6,Array.getElem?_toList,Array.getElem?_eq_getElem h,getElem!_pos d i h]
def agS{d:Array Int}{j:Nat}{i x:Int}(h:j<d.size):∃a,lget (lset d.toList i x) (j:Int)=some a:=Agu (by omega) (by rw[Ac9,Array.length_toList];omega)
def aswp{d:Array Int}{i j:Nat}:lset (lset d.toList (i:Int) d[j]!) (j:Int) d[i]! = (swp d i j).toList:=by simp[lset,swp]
structure Okd(d d':Array Int):Prop where
 size:d'.size=d.size
 all:∀p,AllA p d->AllA p d'
def Okd.refl(d:Array Int):Okd d d:=⟨rfl,fun _ h=>h⟩
def Okd.trans{a b c:Array Int}(h:Okd a b)(k:Okd b c):Okd a c:=⟨k.size.trans h.size,fun p hp=>k.all p (h.all p hp)⟩
def Okd.swp{d:Array Int}{i j:Nat}(hi:i<d.size)(hj:j<d.size):Okd d (swp d i j):=by
 refine⟨size_swp d i j,fun p h k hk=>?_⟩;rw[size_swp]at hk;rw[swp_get d hi hj]
 split
 .exact h _ hi
 .split
  .exact h _ hj
  .exact h _ hk
abbrev SzA(d:Array Int):Prop:=d.size<4611686018427387904
section
variable{p:Int->Prop}{lt:Int->Int->Bool}{C:Int->Int->Int->Prop}
def Alo(p:Int->Prop)(lt:Int->Int->Bool)(C:Int->Int->Int->Prop):Prop:=∀x y,p x->p y->∃r,C x y r/\(r<0↔lt x y=true)
def Alo.ite(h:Alo p lt C){x y:Int}(hx:p x)(hy:p y){A B:Prop}(k:if lt x y=true then A else B):∃r,C x y r/\(if r<0 then A else B):=by
 obtain⟨r,h1,h2⟩:=h x y hx hy;refine⟨r,h1,?_⟩;by_cases hl:lt x y=true
 .rw [if_pos (h2.2 hl)];rw[if_pos hl]at k;exact k
 .rw [if_neg (fun h=>hl (h2.1 h))];rw[if_neg hl]at k;exact k
end
def Aq6(lt:Int->Int->Bool)(a:Nat):∀(j:Nat)(d:Array Int),j<d.size->Okd d (insInner lt a j d)
 |0,d,_=>Okd.refl d
 |j+1,d,h=>by
  simp only[insInner]
  split
  .exact (Okd.swp h (by omega)).trans (Aq6 lt a j _ (by rw[size_swp];omega))
  .exact Okd.refl d
end Go.Own
