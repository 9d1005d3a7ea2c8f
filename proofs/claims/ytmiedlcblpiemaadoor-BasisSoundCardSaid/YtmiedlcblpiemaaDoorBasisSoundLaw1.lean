/- What the functions answer. No conditions. -/
import Derived.Test.YtmiedlcblpiemaaDoorBase1
set_option linter.all false
namespace Go.Own
def free:List Bool->Nat
 | []=>0
 | b::l=>(if b then 0 else 1)+free l
structure CP (rows:Int) (cs:List (List Int)):Prop where
 two:∀ c∈cs,2<=c.length
 inc:∀ c∈cs,c.Pairwise (·<·)
 inn:∀ c∈cs,∀ i∈c,0<=i/\i<rows
 heads:cs.Pairwise fun c d=>c.headD 0<d.headD 0
 disj:cs.Pairwise fun c d=>∀ i∈c,i ∉ d
def idx:Nat->List (List Int)->List (Int×List Int)
 | _,[]=>[]
 | k,c::cs=>((k:Int),c)::idx (k+1) cs
section
variable {α:Type} [DecidableEq α]
end
section
variable {α β:Type} [DecidableEq α] [DecidableEq β]
structure Alike (l:List α) (m:List β):Prop where
 len:l.length=m.length
 iff:∀ i j:Nat,i<l.length->j<l.length->(l[i]? = l[j]?↔m[i]? = m[j]?)
end
section
variable {α:Type} [DecidableEq α]
end
variable {α β γ:Type}
theorem Axj {l m:List α} (hl:l.Nodup) (hs:∀ x∈l,x∈m) (he:l.length=m.length):∀ x∈m,x∈l:=by
 intro x hx
 false_or_by_contra
 rename_i h;have:(x::l).length<=m.length:=(List.nodup_cons.2 ⟨h,hl⟩).length_le_of_subset (by
  intro y hy;rcases List.mem_cons.1 hy with rfl | hy
  ·exact hx
  ·exact hs y hy)
 simp only [List.length_cons] at this;omega
def Agu (A:List α) (B:List β):List (α×β):=A.flatMap fun a=>B.map fun b=>(a,b)
theorem Aim {A:List α} {B:List β} {p:α×β}:p∈Agu A B↔p.1∈A/\p.2∈B:=by
 unfold Agu;rw [List.mem_flatMap];constructor
 ·rintro ⟨a,ha,h⟩;obtain ⟨b,hb,rfl⟩:=List.mem_map.1 h;exact ⟨ha,hb⟩
 ·rintro ⟨h1,h2⟩;exact ⟨p.1,h1,List.mem_map.2 ⟨p.2,h2,rfl⟩⟩
theorem Alz {B:List β}:∀ {A:List α},(Agu A B).length=A.length*B.length
 | []=>by simp [Agu]
 | a::A=>by
  have:=Alz (A:=A) (B:=B);unfold Agu at this ⊢;rw [List.flatMap_cons,List.length_append,List.length_map,this,List.length_cons,Nat.succ_mul,Nat.add_comm]
theorem An8 {B:List β} (hB:B.Nodup):∀ {A:List α},A.Nodup->(Agu A B).Nodup
 | [],_=>by simp [Agu]
 | a::A,hA=>by
  rw [List.nodup_cons] at hA;have ih:=An8 hB hA.2;unfold Agu at ih ⊢;rw [List.flatMap_cons,List.nodup_append];refine ⟨?_,ih,?_⟩
  ·rw [List.nodup_iff_pairwise_ne] at hB ⊢;rw [List.pairwise_map];exact hB.imp fun h he=>h (by cases he;rfl)
  ·intro x hx y hy;obtain ⟨b,_,rfl⟩:=List.mem_map.1 hx;rintro rfl;have:=(Aim (A:=A) (B:=B) (p:=(a,b))).1 hy;exact hA.1 this.1
theorem Bbm {L:List γ} {f:γ->α} {g:γ->β} {A:List α} {B:List β} {C:List (α×β)} (hA:A.Nodup) (hAm:∀ a,a∈A↔∃ x∈L,f x=a) (hB:B.Nodup) (hBm:∀ b,b∈B↔∃ x∈L,g x=b) (hC:C.Nodup) (hCm:∀ p,p∈C↔∃ x∈L,(f x,g x)=p) :
  A.length*B.length=C.length↔∀ x∈L,∀ y∈L,∃ z∈L,f z=f x/\g z=g y:=by
 have hsub:∀ p∈C,p∈Agu A B:=fun p hp=>by
  obtain ⟨x,hx,rfl⟩:=(hCm p).1 hp;exact Aim.2 ⟨(hAm _).2 ⟨x,hx,rfl⟩,(hBm _).2 ⟨x,hx,rfl⟩⟩
 constructor
 ·intro he x hx y hy;have:=Axj hC hsub (by rw [Alz,he]) (f x,g y) (Aim.2 ⟨(hAm _).2 ⟨x,hx,rfl⟩,(hBm _).2 ⟨y,hy,rfl⟩⟩);obtain ⟨z,hz,h⟩:=(hCm _).1 this;exact ⟨z,hz,(Prod.mk.inj h).1,(Prod.mk.inj h).2⟩
 ·intro h;rw [← Alz];refine Nat.le_antisymm ?_ ?_
  ·refine (An8 hB hA).length_le_of_subset fun p hp=>?_;obtain ⟨h1,h2⟩:=Aim.1 hp;obtain ⟨x,hx,e1⟩:=(hAm _).1 h1;obtain ⟨y,hy,e2⟩:=(hBm _).1 h2;obtain ⟨z,hz,e3,e4⟩:=h x hx y hy;exact (hCm p).2 ⟨z,hz,by rw [e3,e4,e1,e2]⟩
  ·exact hC.length_le_of_subset fun p hp=>hsub p hp
structure In1 (l c:List Int):Prop where
 ne:c≠[]
 has:∀ i∈c,∃ a,lget l i=some a
namespace drossref08_Removal
end drossref08_Removal
end Go.Own
