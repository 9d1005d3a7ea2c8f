/- What the functions answer. No conditions. -/
import Derived.Test.YtmiedlcblpiemaaGreatDoorOwn27
set_option linter.all false
namespace Go.Own
variable {α β γ:Type}
theorem Axm {l m:List α} (hl:l.Nodup) (hs:∀ x∈l,x∈m) (he:l.length=m.length):∀ x∈m,x∈l:=by
 intro x hx
 false_or_by_contra
 rename_i h;have:(x::l).length<=m.length:=(List.nodup_cons.2 ⟨h,hl⟩).length_le_of_subset (by
  intro y hy;rcases List.mem_cons.1 hy with rfl | hy
  ·exact hx
  ·exact hs y hy)
 simp only [List.length_cons] at this;omega
def Agl (A:List α) (B:List β):List (α×β):=A.flatMap fun a=>B.map fun b=>(a,b)
theorem Aim {A:List α} {B:List β} {p:α×β}:p∈Agl A B↔p.1∈A/\p.2∈B:=by
 unfold Agl;rw [List.mem_flatMap];constructor
 ·rintro ⟨a,ha,h⟩;obtain ⟨b,hb,rfl⟩:=List.mem_map.1 h;exact ⟨ha,hb⟩
 ·rintro ⟨h1,h2⟩;exact ⟨p.1,h1,List.mem_map.2 ⟨p.2,h2,rfl⟩⟩
theorem Alm {B:List β}:∀ {A:List α},(Agl A B).length=A.length*B.length
 | []=>by simp [Agl]
 | a::A=>by
  have:=Alm (A:=A) (B:=B);unfold Agl at this ⊢;rw [List.flatMap_cons,List.length_append,List.length_map,this,List.length_cons,Nat.succ_mul,Nat.add_comm]
theorem Amq {B:List β} (hB:B.Nodup):∀ {A:List α},A.Nodup->(Agl A B).Nodup
 | [],_=>by simp [Agl]
 | a::A,hA=>by
  rw [List.nodup_cons] at hA;have ih:=Amq hB hA.2;unfold Agl at ih ⊢;rw [List.flatMap_cons,List.nodup_append];refine ⟨?_,ih,?_⟩
  ·rw [List.nodup_iff_pairwise_ne] at hB ⊢;rw [List.pairwise_map];exact hB.imp fun h he=>h (by cases he;rfl)
  ·intro x hx y hy;obtain ⟨b,_,rfl⟩:=List.mem_map.1 hx;rintro rfl;have:=(Aim (A:=A) (B:=B) (p:=(a,b))).1 hy;exact hA.1 this.1
theorem Bbx {L:List γ} {f:γ->α} {g:γ->β} {A:List α} {B:List β} {C:List (α×β)} (hA:A.Nodup) (hAm:∀ a,a∈A↔∃ x∈L,f x=a) (hB:B.Nodup) (hBm:∀ b,b∈B↔∃ x∈L,g x=b) (hC:C.Nodup) (hCm:∀ p,p∈C↔∃ x∈L,(f x,g x)=p) :
  A.length*B.length=C.length↔∀ x∈L,∀ y∈L,∃ z∈L,f z=f x/\g z=g y:=by
 have hsub:∀ p∈C,p∈Agl A B:=fun p hp=>by
  obtain ⟨x,hx,rfl⟩:=(hCm p).1 hp;exact Aim.2 ⟨(hAm _).2 ⟨x,hx,rfl⟩,(hBm _).2 ⟨x,hx,rfl⟩⟩
 constructor
 ·intro he x hx y hy;have:=Axm hC hsub (by rw [Alm,he]) (f x,g y) (Aim.2 ⟨(hAm _).2 ⟨x,hx,rfl⟩,(hBm _).2 ⟨y,hy,rfl⟩⟩);obtain ⟨z,hz,h⟩:=(hCm _).1 this;exact ⟨z,hz,(Prod.mk.inj h).1,(Prod.mk.inj h).2⟩
 ·intro h;rw [← Alm];refine Nat.le_antisymm ?_ ?_
  ·refine (Amq hB hA).length_le_of_subset fun p hp=>?_;obtain ⟨h1,h2⟩:=Aim.1 hp;obtain ⟨x,hx,e1⟩:=(hAm _).1 h1;obtain ⟨y,hy,e2⟩:=(hBm _).1 h2;obtain ⟨z,hz,e3,e4⟩:=h x hx y hy;exact (hCm p).2 ⟨z,hz,by rw [e3,e4,e1,e2]⟩
  ·exact hC.length_le_of_subset fun p hp=>hsub p hp
end Go.Own
