/- What the functions answer. No conditions. -/
import Derived.Sort.AssemblyPlain
import Derived.Sort.LotC
import Derived.Sort.LotD3
import Derived.Test.YtockohmmmlhhfabGreatDoorOwn23
import Derived.Test.YtockohmmmlhhfabGreatDoorBase1
set_option linter.all false
namespace Go.Own
open Go.Sort
theorem wnL {x:Int} {n:Nat} (h:x=n) (hn:n<9223372036854775808):IntKind.wrap .i64 x=n:=by rw [h];exact Abw (by omega) (by omega)
theorem wxL (x:Int) (n:Nat) (h:x=n) (hn:n<9223372036854775808):IntKind.wrap .i64 x=n:=wnL h hn
theorem wiL (x:Int) (h : -9223372036854775808<=x) (h2:x<9223372036854775808):IntKind.wrap .i64 x=x:=Abw h h2
def Abp (p:List Int->Prop) (d:Array (List Int)):Prop:=∀ i,i<d.size->p d[i]!
theorem agL {d:Array (List Int)} {i:Nat} (h:i<d.size):lget d.toList (i:Int)=some d[i]!:=by
 rw [Af1,Array.getElem?_toList,Array.getElem?_eq_getElem h,getElem!_pos d i h]
theorem agSL {d:Array (List Int)} {j:Nat} {i:Int} {x:List Int} (h:j<d.size):∃ a,lget (lset d.toList i x) (j:Int)=some a:=Bdg (by omega) (by rw [Avw,Array.length_toList];omega)
theorem Adw {d:Array (List Int)} {i j:Nat}:lset (lset d.toList (i:Int) d[j]!) (j:Int) d[i]! = (swp d i j).toList:=by simp [lset,swp]
structure OkdL (d d':Array (List Int)):Prop where
 size:d'.size=d.size
 all:∀ p,Abp p d->Abp p d'
theorem OkdL.refl (d:Array (List Int)):OkdL d d:=⟨rfl,fun _ h=>h⟩
theorem OkdL.trans {a b c:Array (List Int)} (h:OkdL a b) (k:OkdL b c):OkdL a c:=⟨k.size.trans h.size,fun p hp=>k.all p (h.all p hp)⟩
theorem OkdL.swp {d:Array (List Int)} {i j:Nat} (hi:i<d.size) (hj:j<d.size):OkdL d (swp d i j):=by
 refine ⟨size_swp d i j,fun p h k hk=>?_⟩;rw [size_swp] at hk;rw [swp_get d hi hj]
 split
 ·exact h _ hi
 ·split
  ·exact h _ hj
  ·exact h _ hk
theorem OkdL.perm {d d':Array (List Int)} {a b:Nat} (hb:b<=d.size) (h:PermIn a b d d'):OkdL d d':=by
 refine ⟨h.1,fun p hp k hk=>?_⟩;rw [h.1] at hk;by_cases hin:a<=k/\k<b
 ·exact permIn_all d d' a b p hb h (fun i _ hi=>hp i (by omega)) k hin.1 hin.2
 ·rw [h.2.1 k (by omega)];exact hp k hk
abbrev SzAL (d:Array (List Int)):Prop:=d.size<4611686018427387904
section
variable {p:List Int->Prop} {lt:List Int->List Int->Bool} {C:List Int->List Int->Int->Prop}
def Ak7 (p:List Int->Prop) (lt:List Int->List Int->Bool) (C:List Int->List Int->Int->Prop):Prop:=∀ x y,p x->p y->∃ r,C x y r/\(r<0↔lt x y=true)
theorem Ak7.ite (h:Ak7 p lt C) {x y:List Int} (hx:p x) (hy:p y) {A B:Prop} (k:if lt x y=true then A else B):∃ r,C x y r/\(if r<0 then A else B):=by
 obtain ⟨r,h1,h2⟩:=h x y hx hy;refine ⟨r,h1,?_⟩;by_cases hl:lt x y=true
 ·rw [if_pos (h2.2 hl)];rw [if_pos hl] at k;exact k
 ·rw [if_neg (fun h=>hl (h2.1 h))];rw [if_neg hl] at k;exact k
end
theorem Am0 (lt:List Int->List Int->Bool) (a:Nat):∀ (j:Nat) (d:Array (List Int)),j<d.size->OkdL d (insInner lt a j d)
 | 0,d,_=>OkdL.refl d
 | j+1,d,h=>by
  simp only [insInner]
  split
  ·exact (OkdL.swp h (by omega)).trans (Am0 lt a j _ (by rw [size_swp];omega))
  ·exact OkdL.refl d
theorem Aft (lt:List Int->List Int->Bool) (hi first:Nat):∀ (n root:Nat) (d:Array (List Int)),hi-root<=n->first+hi<=d.size->OkdL d (siftDown lt hi first root d)
 | 0,root,d,h,_=>by
  unfold siftDown;rw [dif_pos (by omega)];exact OkdL.refl d
 | n+1,root,d,h,hs=>by
  unfold siftDown
  split
  ·exact OkdL.refl d
  ·rename_i h1
   split
   ·rename_i h2;simp only [Bool.and_eq_true,decide_eq_true_eq] at h2
    split
    ·exact OkdL.refl d
    ·rw [dif_pos (by omega)];exact (OkdL.swp (by omega) (by omega)).trans (Aft lt hi first n _ _ (by omega) (by rw [size_swp];exact hs))
   ·split
    ·exact OkdL.refl d
    ·exact (OkdL.swp (by omega) (by omega)).trans (Aft lt hi first n _ _ (by omega) (by rw [size_swp];exact hs))
theorem Akk (lt:List Int->List Int->Bool):∀ (j:Nat) (d:Array (List Int)),j<d.size->OkdL d (shiftDown lt j d)
 | 0,d,_=>OkdL.refl d
 | j+1,d,h=>by
  simp only [shiftDown]
  split
  ·exact OkdL.refl d
  ·exact (OkdL.swp h (by omega)).trans (Akk lt j _ (by rw [size_swp];omega))
theorem Amq (lt:List Int->List Int->Bool) (b:Nat):∀ (n j:Nat) (d:Array (List Int)),b-j<=n->1<=j->b<=d.size->OkdL d (shiftUp lt b j d)
 | 0,j,d,h,_,_=>by
  unfold shiftUp;rw [if_neg (by omega)];exact OkdL.refl d
 | n+1,j,d,h,h1,hb=>by
  unfold shiftUp
  split
  ·split
   ·exact OkdL.refl d
   ·exact (OkdL.swp (by omega) (by omega)).trans (Amq lt b n _ _ (by omega) (by omega) (by rw [size_swp];exact hb))
  ·exact OkdL.refl d
open Go.Sort
def AllA (p:Int->Prop) (d:Array Int):Prop:=∀ i,i<d.size->p d[i]!
structure Okd (d d':Array Int):Prop where
 size:d'.size=d.size
 all:∀ p,AllA p d->AllA p d'
section
variable {p:Int->Prop} {lt:Int->Int->Bool} {C:Int->Int->Int->Prop}
end
end Go.Own
