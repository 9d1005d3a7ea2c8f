/- What the functions answer. No conditions. -/
import Derived.Sort.AssemblyPlain
import Derived.Sort.LotC
import Derived.Sort.LotD3
import Derived.Test.YtockohmmmlhhfadGreatDoorOwn23
import Derived.Test.YtockohmmmlhhfadGreatDoorBase2
set_option linter.all false
namespace Go.Own
section
variable {ρ:Type} {cmp:ρ->ρ->Nat->Int} {r s:ρ}
end
open Go.Sort
namespace LS
theorem wn {x:Int} {n:Nat} (h:x=n) (hn:n<9223372036854775808):IntKind.wrap .i64 x=n:=by rw [h];exact Aby (by omega) (by omega)
theorem wx (x:Int) (n:Nat) (h:x=n) (hn:n<9223372036854775808):IntKind.wrap .i64 x=n:=wn h hn
theorem wi (x:Int) (h : -9223372036854775808<=x) (h2:x<9223372036854775808):IntKind.wrap .i64 x=x:=Aby h h2
def AllA (p:List Int->Prop) (d:Array (List Int)):Prop:=∀ i,i<d.size->p d[i]!
theorem ag {d:Array (List Int)} {i:Nat} (h:i<d.size):lget d.toList (i:Int)=some d[i]!:=by
 rw [Aay,Array.getElem?_toList,Array.getElem?_eq_getElem h,getElem!_pos d i h]
theorem agS {d:Array (List Int)} {j:Nat} {i:Int} {x:List Int} (h:j<d.size):∃ a,lget (lset d.toList i x) (j:Int)=some a:=Aet (by omega) (by rw [Abe,Array.length_toList];omega)
theorem aswp {d:Array (List Int)} {i j:Nat}:lset (lset d.toList (i:Int) d[j]!) (j:Int) d[i]! = (swp d i j).toList:=by simp [lset,swp]
structure Okd (d d':Array (List Int)):Prop where
 size:d'.size=d.size
 all:∀ p,AllA p d->AllA p d'
theorem Okd.refl (d:Array (List Int)):Okd d d:=⟨rfl,fun _ h=>h⟩
theorem Okd.trans {a b c:Array (List Int)} (h:Okd a b) (k:Okd b c):Okd a c:=⟨k.size.trans h.size,fun p hp=>k.all p (h.all p hp)⟩
theorem Okd.swp {d:Array (List Int)} {i j:Nat} (hi:i<d.size) (hj:j<d.size):Okd d (swp d i j):=by
 refine ⟨size_swp d i j,fun p h k hk=>?_⟩;rw [size_swp] at hk;rw [swp_get d hi hj]
 split
 ·exact h _ hi
 ·split
  ·exact h _ hj
  ·exact h _ hk
theorem Okd.perm {d d':Array (List Int)} {a b:Nat} (hb:b<=d.size) (h:PermIn a b d d'):Okd d d':=by
 refine ⟨h.1,fun p hp k hk=>?_⟩;rw [h.1] at hk;by_cases hin:a<=k/\k<b
 ·exact permIn_all d d' a b p hb h (fun i _ hi=>hp i (by omega)) k hin.1 hin.2
 ·rw [h.2.1 k (by omega)];exact hp k hk
abbrev SzA (d:Array (List Int)):Prop:=d.size<4611686018427387904
section
variable {p:List Int->Prop} {lt:List Int->List Int->Bool} {C:List Int->List Int->Int->Prop}
def CmpOK (p:List Int->Prop) (lt:List Int->List Int->Bool) (C:List Int->List Int->Int->Prop):Prop:=∀ x y,p x->p y->∃ r,C x y r/\(r<0↔lt x y=true)
theorem CmpOK.ite (h:CmpOK p lt C) {x y:List Int} (hx:p x) (hy:p y) {A B:Prop} (k:if lt x y=true then A else B):∃ r,C x y r/\(if r<0 then A else B):=by
 obtain ⟨r,h1,h2⟩:=h x y hx hy;refine ⟨r,h1,?_⟩;by_cases hl:lt x y=true
 ·rw [if_pos (h2.2 hl)];rw [if_pos hl] at k;exact k
 ·rw [if_neg (fun h=>hl (h2.1 h))];rw [if_neg hl] at k;exact k
end
theorem okd_insInner (lt:List Int->List Int->Bool) (a:Nat):∀ (j:Nat) (d:Array (List Int)),j<d.size->Okd d (insInner lt a j d)
 | 0,d,_=>Okd.refl d
 | j+1,d,h=>by
  simp only [insInner]
  split
  ·exact (Okd.swp h (by omega)).trans (okd_insInner lt a j _ (by rw [size_swp];omega))
  ·exact Okd.refl d
theorem okd_siftDown (lt:List Int->List Int->Bool) (hi first:Nat):∀ (n root:Nat) (d:Array (List Int)),hi-root<=n->first+hi<=d.size->Okd d (siftDown lt hi first root d)
 | 0,root,d,h,_=>by
  unfold siftDown;rw [dif_pos (by omega)];exact Okd.refl d
 | n+1,root,d,h,hs=>by
  unfold siftDown
  split
  ·exact Okd.refl d
  ·rename_i h1
   split
   ·rename_i h2;simp only [Bool.and_eq_true,decide_eq_true_eq] at h2
    split
    ·exact Okd.refl d
    ·rw [dif_pos (by omega)];exact (Okd.swp (by omega) (by omega)).trans (okd_siftDown lt hi first n _ _ (by omega) (by rw [size_swp];exact hs))
   ·split
    ·exact Okd.refl d
    ·exact (Okd.swp (by omega) (by omega)).trans (okd_siftDown lt hi first n _ _ (by omega) (by rw [size_swp];exact hs))
theorem okd_shiftDown (lt:List Int->List Int->Bool):∀ (j:Nat) (d:Array (List Int)),j<d.size->Okd d (shiftDown lt j d)
 | 0,d,_=>Okd.refl d
 | j+1,d,h=>by
  simp only [shiftDown]
  split
  ·exact Okd.refl d
  ·exact (Okd.swp h (by omega)).trans (okd_shiftDown lt j _ (by rw [size_swp];omega))
theorem okd_shiftUp (lt:List Int->List Int->Bool) (b:Nat):∀ (n j:Nat) (d:Array (List Int)),b-j<=n->1<=j->b<=d.size->Okd d (shiftUp lt b j d)
 | 0,j,d,h,_,_=>by
  unfold shiftUp;rw [if_neg (by omega)];exact Okd.refl d
 | n+1,j,d,h,h1,hb=>by
  unfold shiftUp
  split
  ·split
   ·exact Okd.refl d
   ·exact (Okd.swp (by omega) (by omega)).trans (okd_shiftUp lt b n _ _ (by omega) (by omega) (by rw [size_swp];exact hb))
  ·exact Okd.refl d
end LS
open Go.Sort
theorem wn {x:Int} {n:Nat} (h:x=n) (hn:n<9223372036854775808):IntKind.wrap .i64 x=n:=by rw [h];exact Aby (by omega) (by omega)
theorem wx (x:Int) (n:Nat) (h:x=n) (hn:n<9223372036854775808):IntKind.wrap .i64 x=n:=wn h hn
theorem wi (x:Int) (h : -9223372036854775808<=x) (h2:x<9223372036854775808):IntKind.wrap .i64 x=x:=Aby h h2
def AllA (p:Int->Prop) (d:Array Int):Prop:=∀ i,i<d.size->p d[i]!
theorem ag {d:Array Int} {i:Nat} (h:i<d.size):lget d.toList (i:Int)=some d[i]!:=by
 rw [Aay,Array.getElem?_toList,Array.getElem?_eq_getElem h,getElem!_pos d i h]
theorem agS {d:Array Int} {j:Nat} {i x:Int} (h:j<d.size):∃ a,lget (lset d.toList i x) (j:Int)=some a:=Aet (by omega) (by rw [Abe,Array.length_toList];omega)
theorem aswp {d:Array Int} {i j:Nat}:lset (lset d.toList (i:Int) d[j]!) (j:Int) d[i]! = (swp d i j).toList:=by simp [lset,swp]
structure Okd (d d':Array Int):Prop where
 size:d'.size=d.size
 all:∀ p,AllA p d->AllA p d'
theorem Okd.refl (d:Array Int):Okd d d:=⟨rfl,fun _ h=>h⟩
theorem Okd.trans {a b c:Array Int} (h:Okd a b) (k:Okd b c):Okd a c:=⟨k.size.trans h.size,fun p hp=>k.all p (h.all p hp)⟩
theorem Okd.swp {d:Array Int} {i j:Nat} (hi:i<d.size) (hj:j<d.size):Okd d (swp d i j):=by
 refine ⟨size_swp d i j,fun p h k hk=>?_⟩;rw [size_swp] at hk;rw [swp_get d hi hj]
 split
 ·exact h _ hi
 ·split
  ·exact h _ hj
  ·exact h _ hk
theorem Okd.perm {d d':Array Int} {a b:Nat} (hb:b<=d.size) (h:PermIn a b d d'):Okd d d':=by
 refine ⟨h.1,fun p hp k hk=>?_⟩;rw [h.1] at hk;by_cases hin:a<=k/\k<b
 ·exact permIn_all d d' a b p hb h (fun i _ hi=>hp i (by omega)) k hin.1 hin.2
 ·rw [h.2.1 k (by omega)];exact hp k hk
abbrev SzA (d:Array Int):Prop:=d.size<4611686018427387904
section
variable {p:Int->Prop} {lt:Int->Int->Bool} {C:Int->Int->Int->Prop}
def CmpOK (p:Int->Prop) (lt:Int->Int->Bool) (C:Int->Int->Int->Prop):Prop:=∀ x y,p x->p y->∃ r,C x y r/\(r<0↔lt x y=true)
theorem CmpOK.ite (h:CmpOK p lt C) {x y:Int} (hx:p x) (hy:p y) {A B:Prop} (k:if lt x y=true then A else B):∃ r,C x y r/\(if r<0 then A else B):=by
 obtain ⟨r,h1,h2⟩:=h x y hx hy;refine ⟨r,h1,?_⟩;by_cases hl:lt x y=true
 ·rw [if_pos (h2.2 hl)];rw [if_pos hl] at k;exact k
 ·rw [if_neg (fun h=>hl (h2.1 h))];rw [if_neg hl] at k;exact k
end
theorem okd_insInner (lt:Int->Int->Bool) (a:Nat):∀ (j:Nat) (d:Array Int),j<d.size->Okd d (insInner lt a j d)
 | 0,d,_=>Okd.refl d
 | j+1,d,h=>by
  simp only [insInner]
  split
  ·exact (Okd.swp h (by omega)).trans (okd_insInner lt a j _ (by rw [size_swp];omega))
  ·exact Okd.refl d
theorem okd_siftDown (lt:Int->Int->Bool) (hi first:Nat):∀ (n root:Nat) (d:Array Int),hi-root<=n->first+hi<=d.size->Okd d (siftDown lt hi first root d)
 | 0,root,d,h,_=>by
  unfold siftDown;rw [dif_pos (by omega)];exact Okd.refl d
 | n+1,root,d,h,hs=>by
  unfold siftDown
  split
  ·exact Okd.refl d
  ·rename_i h1
   split
   ·rename_i h2;simp only [Bool.and_eq_true,decide_eq_true_eq] at h2
    split
    ·exact Okd.refl d
    ·rw [dif_pos (by omega)];exact (Okd.swp (by omega) (by omega)).trans (okd_siftDown lt hi first n _ _ (by omega) (by rw [size_swp];exact hs))
   ·split
    ·exact Okd.refl d
    ·exact (Okd.swp (by omega) (by omega)).trans (okd_siftDown lt hi first n _ _ (by omega) (by rw [size_swp];exact hs))
theorem okd_shiftDown (lt:Int->Int->Bool):∀ (j:Nat) (d:Array Int),j<d.size->Okd d (shiftDown lt j d)
 | 0,d,_=>Okd.refl d
 | j+1,d,h=>by
  simp only [shiftDown]
  split
  ·exact Okd.refl d
  ·exact (Okd.swp h (by omega)).trans (okd_shiftDown lt j _ (by rw [size_swp];omega))
theorem okd_shiftUp (lt:Int->Int->Bool) (b:Nat):∀ (n j:Nat) (d:Array Int),b-j<=n->1<=j->b<=d.size->Okd d (shiftUp lt b j d)
 | 0,j,d,h,_,_=>by
  unfold shiftUp;rw [if_neg (by omega)];exact Okd.refl d
 | n+1,j,d,h,h1,hb=>by
  unfold shiftUp
  split
  ·split
   ·exact Okd.refl d
   ·exact (Okd.swp (by omega) (by omega)).trans (okd_shiftUp lt b n _ _ (by omega) (by omega) (by rw [size_swp];exact hb))
  ·exact Okd.refl d
end Go.Own
