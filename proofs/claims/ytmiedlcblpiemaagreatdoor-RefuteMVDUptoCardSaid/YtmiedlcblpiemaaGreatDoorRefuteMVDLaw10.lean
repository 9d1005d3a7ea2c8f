/- What the functions answer. No conditions. -/
import Derived.Test.YtmiedlcblpiemaaGreatDoorRefuteMVDLaw3
import Derived.Test.YtmiedlcblpiemaaGreatDoorRefuteMVDLaw9
set_option linter.all false
namespace Go.Own
open Go.Sort
section
variable{p:Int->Prop}{lt:Int->Int->Bool}(hC:Alo p lt q75_.C)
include hC
namespace q4_
def inner{a b i:Nat}{J:List Int->Prop}(j:Nat):∀(d:Array Int),AllA p d->j<d.size->SzA d->L3 a b i (insInner lt a j d).toList J->L2 a b i j d.toList J:=by
 induction j with
 |zero=>
  intro d hp hj hs h;apply K2;rw[if_neg (by omega)];exact h
 |succ j ih=>
  intro d hp hj hs h;apply K2;have e:insInner lt a (j+1) d=if j+1 > a&&lt d[j+1]! d[j]! then insInner lt a j (swp d (j+1) j)else d:=rfl
  rw[e]at h;by_cases haj:a<j+1
  .rw [if_pos (by omega)];rw[wx (((j+1:Nat):Int)-1) j (by omega) (by unfold SzA at hs;omega)];refine⟨_,ag hj,_,ag (by omega),hC.ite (hp _ hj) (hp _ (by omega)) ?_⟩;by_cases hl:lt d[j+1]! d[j]! = true
   .rw [if_pos hl];rw[if_pos (by rw[hl];simpa using haj)]at h;obtain⟨x,hx⟩:=agS (d:=d) (i:=((j+1:Nat):Int)) (x:=d[j]!) (j:=j) (by omega);refine⟨x,hx,?_⟩;rw[aswp];exact ih _ ((Okd.swp hj (by omega)).all p hp) (by rw[size_swp];omega) (by unfold SzA;rw[size_swp];exact hs) h
   .rw [if_neg hl];rw[if_neg (by rw[Bool.eq_false_iff.2 hl];simp)]at h;exact h
  .rw [if_neg (by omega)];rw[if_neg (by simp;omega)]at h;exact h
def outer{a b:Nat}{J:List Int->Prop}(n:Nat):∀(i:Nat)(d:Array Int),b-i<=n->b<=d.size->AllA p d->SzA d->J (insOuter lt a b i d).toList->L1 a b i d.toList J:=by
 induction n with
 |zero=>
  intro i d hn hb hp hs h;apply K1;unfold insOuter at h;rw[if_neg (by omega)]at h;rw[if_neg (by omega)];exact h
 |succ n ih=>
  intro i d hn hb hp hs h;apply K1;unfold insOuter at h;by_cases hi:i<b
  .rw [if_pos (by omega)];rw[if_pos hi]at h;have ho:=Aq6 lt a i d (by omega);refine inner hC i d hp (by omega) hs ?_;apply K3;rw[wx ((i:Int)+1) (i+1) (by omega) (by unfold SzA at hs;omega)];exact ih (i+1) _ (by omega) (by rw[ho.size];exact hb) (ho.all p hp) (by unfold SzA;rw[ho.size];exact hs) h
  .rw [if_neg (by omega)];rw[if_neg hi]at h;exact h
def sP{a b:Nat}{d:Array Int}(hab:a<=b)(hb:b<=d.size)(hp:AllA p d)(hs:SzA d):C a b d.toList (insertionSort lt d a b).toList:=by
 obtain⟨r,h1,h2⟩:=nt a b d.toList (fun r=>r=(insertionSort lt d a b).toList) (by
  rw[wx ((a:Int)+1) (a+1) (by omega) (by unfold SzA at hs;omega)]
  exact outer hC (b-(a+1)) (a+1) d (Nat.le_refl _) hb hp hs rfl)
 rw[<-h1];exact h2
end q4_
end
open Go.Sort
section
variable{p:Int->Prop}{lt:Int->Int->Bool}(hC:Alo p lt q75_.C)
include hC
namespace slices_partialInsertionSortCmpFunc_api_Set_attrset_compare
end slices_partialInsertionSortCmpFunc_api_Set_attrset_compare
end
open Go.Sort
section
variable{p:Int->Prop}{lt:Int->Int->Bool}(hC:Alo p lt q75_.C)
include hC
end
end Go.Own
