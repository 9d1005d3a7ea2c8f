/- What the functions answer. No conditions. -/
import Derived.Sort.AssemblyPlain
import Derived.Sort.LotC
import Derived.Sort.LotD3
import Derived.Test.YtcbhcnkfefbddaaGreatDoorBase2
set_option linter.all false
open Array renaming getElem?_eq_getElem->aA,getElem?_toList->aM,length_toList->aQ
namespace Go.aS
open Go.Sort
def alQ{x:Int}{n:Nat}(h:x=n)(ao:n<9223372036854775808):aV x=n:=by rw[h];exact nF (by omega) (by omega)
def cW(x:Int)(n:Nat)(h:x=n)(ao:n<9223372036854775808):aV x=n:=alQ h ao
def P1(x:Int)(h : -9223372036854775808<=x)(aa:x<9223372036854775808):aV x=x:=nF h aa
def hT(p:ay->Prop)(d:Array (ay)):Prop:=∀i,i<d.size->p d[i]!
def eR{d:Array (ay)}{i:Nat}(h:i<d.size):a_ d.toList (i:Int)=some d[i]!:=by
 rw[gP,aM,aA h,getElem!_pos d i h]
def m6{d:Array (ay)}{j:Nat}{i:Int}{x:ay}(h:j<d.size):∃a,a_ (b7 d.toList i x) (j:Int)=some a:=sF (by omega) (by rw[oi,aQ];omega)
def mV{d:Array (ay)}{i j:Nat}:b7 (b7 d.toList (i:Int) d[j]!) (j:Int) d[i]! = (swp d i j).toList:=by simp[b7,swp]
structure dO(d bf:Array (ay)):Prop where
 size:bf.size=d.size
 all:∀p,hT p d->hT p bf
def dO.refl(d:Array (ay)):dO d d:=⟨rfl,λ_ h=>h⟩
def dO.trans{a b c:Array (ay)}(h:dO a b)(k:dO b c):dO a c:=⟨k.size.trans h.size,λp af=>k.all p (h.all p af)⟩
def dO.swp{d:Array (ay)}{i j:Nat}(hi:i<d.size)(aH:j<d.size):dO d (swp d i j):=by
 refine⟨size_swp d i j,λp h k aj=>?_⟩;rw[size_swp]at aj;rw[swp_get d hi aH]
 split
 .exact h _ hi
 .split
  .exact h _ aH
  .exact h _ aj
def dO.perm{d bf:Array (ay)}{a b:Nat}(ag:b<=d.size)(h:PermIn a b d bf):dO d bf:=by
 refine⟨h.1,λp af k aj=>?_⟩;rw[h.1]at aj;by_cases ch:a<=k/\k<b
 .exact permIn_all d bf a b p ag h (λi _ hi=>af i (by omega)) k ch.1 ch.2
 .rw [h.2.1 k (by omega)];exact af k aj
abbrev cE(d:Array (ay)):Prop:=d.size<4611686018427387904
section
variable{p:ay->Prop}{lt:ay->ay->Bool}{C:ay->ay->Int->Prop}
def Ah(p:ay->Prop)(lt:ay->ay->Bool)(C:ay->ay->Int->Prop):Prop:=∀x y,p x->p y->∃r,C x y r/\(r<0↔lt x y=true)
def Ah.ite(h:Ah p lt C){x y:ay}(U:p x)(aw:p y){A B:Prop}(k:if lt x y=true then A else B):∃r,C x y r/\(if r<0 then A else B):=by
 obtain⟨r,I,aa⟩:=h x y U aw;refine⟨r,I,?_⟩;by_cases hl:lt x y=true
 .rw [if_pos (aa.2 hl)];rw[if_pos hl]at k;exact k
 .rw [if_neg (λh=>hl (aa.1 h))];rw[if_neg hl]at k;exact k
end
def Qs(lt:ay->ay->Bool)(a:Nat):∀(j:Nat)(d:Array (ay)),j<d.size->dO d (insInner lt a j d)
 |0,d,_=>dO.refl d
 |j+1,d,h=>by
  simp only[insInner]
  split
  .exact (dO.swp h (by omega)).trans (Qs lt a j _ (by rw[size_swp];omega))
  .exact dO.refl d
def FR(lt:ay->ay->Bool)(hi first:Nat):∀(n root:Nat)(d:Array (ay)),hi-root<=n->first+hi<=d.size->dO d (siftDown lt hi first root d)
 |0,root,d,h,_=>by
  unfold siftDown;rw[dif_pos (by omega)];exact dO.refl d
 |n+1,root,d,h,ae=>by
  unfold siftDown
  split
  .exact dO.refl d
  .rename_i I
   split
   .rename_i aa;simp only[Bool.and_eq_true,decide_eq_true_eq]at aa
    split
    .exact dO.refl d
    .rw [dif_pos (by omega)];exact(dO.swp (by omega) (by omega)).trans (FR lt hi first n _ _ (by omega) (by rw[size_swp];exact ae))
   .split
    .exact dO.refl d
    .exact (dO.swp (by omega) (by omega)).trans (FR lt hi first n _ _ (by omega) (by rw[size_swp];exact ae))
def Qf(lt:ay->ay->Bool):∀(j:Nat)(d:Array (ay)),j<d.size->dO d (shiftDown lt j d)
 |0,d,_=>dO.refl d
 |j+1,d,h=>by
  simp only[shiftDown]
  split
  .exact dO.refl d
  .exact (dO.swp h (by omega)).trans (Qf lt j _ (by rw[size_swp];omega))
def QH(lt:ay->ay->Bool)(b:Nat):∀(n j:Nat)(d:Array (ay)),b-j<=n->1<=j->b<=d.size->dO d (shiftUp lt b j d)
 |0,j,d,h,_,_=>by
  unfold shiftUp;rw[if_neg (by omega)];exact dO.refl d
 |n+1,j,d,h,I,ag=>by
  unfold shiftUp
  split
  .split
   .exact dO.refl d
   .exact (dO.swp (by omega) (by omega)).trans (QH lt b n _ _ (by omega) (by omega) (by rw[size_swp];exact ag))
  .exact dO.refl d
open Go.Sort
def wn{x:Int}{n:Nat}(h:x=n)(ao:n<9223372036854775808):aV x=n:=by rw[h];exact nF (by omega) (by omega)
def vJ(x:Int)(n:Nat)(h:x=n)(ao:n<9223372036854775808):aV x=n:=wn h ao
def Ag(p:Int->Prop)(d:Array Int):Prop:=∀i,i<d.size->p d[i]!
def gg{d:Array Int}{i:Nat}(h:i<d.size):a_ d.toList (i:Int)=some d[i]!:=by
 rw[gP,aM,aA h,getElem!_pos d i h]
def agF{d:Array Int}{j:Nat}{i x:Int}(h:j<d.size):∃a,a_ (b7 d.toList i x) (j:Int)=some a:=sF (by omega) (by rw[oi,aQ];omega)
def agI{d:Array Int}{i j:Nat}:b7 (b7 d.toList (i:Int) d[j]!) (j:Int) d[i]! = (swp d i j).toList:=by simp[b7,swp]
structure pr(d bf:Array Int):Prop where
 size:bf.size=d.size
 all:∀p,Ag p d->Ag p bf
def pr.refl(d:Array Int):pr d d:=⟨rfl,λ_ h=>h⟩
def pr.trans{a b c:Array Int}(h:pr a b)(k:pr b c):pr a c:=⟨k.size.trans h.size,λp af=>k.all p (h.all p af)⟩
def pr.swp{d:Array Int}{i j:Nat}(hi:i<d.size)(aH:j<d.size):pr d (swp d i j):=by
 refine⟨size_swp d i j,λp h k aj=>?_⟩;rw[size_swp]at aj;rw[swp_get d hi aH]
 split
 .exact h _ hi
 .split
  .exact h _ aH
  .exact h _ aj
abbrev sS(d:Array Int):Prop:=d.size<4611686018427387904
section
variable{p:Int->Prop}{lt:Int->Int->Bool}{C:Int->Int->Int->Prop}
def wx(p:Int->Prop)(lt:Int->Int->Bool)(C:Int->Int->Int->Prop):Prop:=∀x y,p x->p y->∃r,C x y r/\(r<0↔lt x y=true)
def wx.ite(h:wx p lt C){x y:Int}(U:p x)(aw:p y){A B:Prop}(k:if lt x y=true then A else B):∃r,C x y r/\(if r<0 then A else B):=by
 obtain⟨r,I,aa⟩:=h x y U aw;refine⟨r,I,?_⟩;by_cases hl:lt x y=true
 .rw [if_pos (aa.2 hl)];rw[if_pos hl]at k;exact k
 .rw [if_neg (λh=>hl (aa.1 h))];rw[if_neg hl]at k;exact k
end
def QG(lt:Int->Int->Bool)(a:Nat):∀(j:Nat)(d:Array Int),j<d.size->pr d (insInner lt a j d)
 |0,d,_=>pr.refl d
 |j+1,d,h=>by
  simp only[insInner]
  split
  .exact (pr.swp h (by omega)).trans (QG lt a j _ (by rw[size_swp];omega))
  .exact pr.refl d
end Go.aS
