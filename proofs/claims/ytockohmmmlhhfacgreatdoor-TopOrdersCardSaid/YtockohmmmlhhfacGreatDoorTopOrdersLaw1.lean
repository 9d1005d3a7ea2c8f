/- What the functions answer. No conditions. -/
import Derived.Test.YtockohmmmlhhfacGreatDoorOwn22
set_option linter.all false
namespace Go.Own
section
variable {ρ:Type} {cmp:ρ->ρ->Nat->Int} {r s:ρ}
def lexO (cmp:ρ->ρ->Nat->Int) (r s:ρ):List Nat->Int
 | []=>0
 | a::l=>if cmp r s a=0 then lexO cmp r s l else cmp r s a
theorem Adg:∀ {l:List Nat},lexO cmp r s l=0↔∀ a∈l,cmp r s a=0
 | []=>by simp [lexO]
 | a::l=>by
  rw [lexO];by_cases h:cmp r s a=0
  ·rw [if_pos h,Adg];simp [h]
  ·rw [if_neg h];simp [h]
theorem An3:∀ {l m:List Nat},lexO cmp r s (l++m)=if lexO cmp r s l=0 then lexO cmp r s m else lexO cmp r s l
 | [],m=>by simp [lexO]
 | a::l,m=>by
  rw [List.cons_append,lexO,lexO];by_cases h:cmp r s a=0
  ·rw [if_pos h,if_pos h,An3]
  ·rw [if_neg h,if_neg h,if_neg h]
theorem Apw {A B:List Nat} {a:Nat} (hA:∀ b∈A,cmp r s b=0) (ha:cmp r s a≠0):lexO cmp r s (A++a::B)=cmp r s a:=by
 rw [An3,if_pos (Adg.2 hA),lexO,if_neg ha]
theorem Aud:∀ {l:List Nat},lexO cmp r s l≠0->∃ A a B,l=A++a::B/\(∀ b∈A,cmp r s b=0)/\cmp r s a≠0
 | [],h=>absurd rfl h
 | a::l,h=>by
  rw [lexO] at h;by_cases ha:cmp r s a=0
  ·rw [if_pos ha] at h;obtain ⟨A,b,B,e,h1,h2⟩:=Aud h;refine ⟨a::A,b,B,by rw [e];rfl,fun c hc=>?_,h2⟩;rcases List.mem_cons.1 hc with rfl | hc
   ·exact ha
   ·exact h1 c hc
  ·exact ⟨[],a,l,rfl,fun b hb=>(by cases hb),ha⟩
def odH (cmp:ρ->ρ->Nat->Int) (P:ρ->ρ->Prop) (X Y:List Nat):Prop:=∀ r s,P r s->(lexO cmp r s X=0->lexO cmp r s Y=0)/\¬ lexO cmp r s X*lexO cmp r s Y<0
theorem Bgh {P:ρ->ρ->Prop} {X Y:List Nat}:odH cmp P X Y ↔
  (∀ b∈Y,∀ r s,P r s->(∀ a∈X,cmp r s a=0)->cmp r s b=0) /\
  ∀ A a B C b D,X=A++a::B->Y=C++b::D->∀ r s,P r s->(∀ x∈A,cmp r s x=0)->(∀ y∈C,cmp r s y=0)->¬ cmp r s a*cmp r s b<0:=by
 constructor
 ·intro h;refine ⟨fun b hb r s hp ha=>?_,fun A a B C b D eX eY r s hp hA hC hlt=>?_⟩
  ·exact Adg.1 ((h r s hp).1 (Adg.2 ha)) b hb
  ·have ha:cmp r s a≠0:=fun e=>by rw [e,Int.zero_mul] at hlt;omega
   have hb:cmp r s b≠0:=fun e=>by rw [e,Int.mul_zero] at hlt;omega
   refine (h r s hp).2 ?_;rw [eX,eY,Apw hA ha,Apw hC hb];exact hlt
 ·rintro ⟨h1,h2⟩ r s hp;refine ⟨fun h0=>Adg.2 fun b hb=>h1 b hb r s hp (Adg.1 h0),fun hlt=>?_⟩;have hx:lexO cmp r s X≠0:=fun e=>by rw [e,Int.zero_mul] at hlt;omega
  have hy:lexO cmp r s Y≠0:=fun e=>by rw [e,Int.mul_zero] at hlt;omega
  obtain ⟨A,a,B,eX,hA,ha⟩:=Aud hx;obtain ⟨C,b,D,eY,hC,hb⟩:=Aud hy;rw [eX,eY,Apw hA ha,Apw hC hb] at hlt;exact h2 A a B C b D eX eY r s hp hA hC hlt
def Aar (out:List Nat):List Nat->List Nat
 | []=>out
 | a::l=>Aar (if a∈out then out else out++[a]) l
theorem Aue:∀ {l out:List Nat},lexO cmp r s (Aar out l)=lexO cmp r s (out++l)
 | [],out=>by rw [Aar,List.append_nil]
 | a::l,out=>by
  rw [Aar,Aue];by_cases h:a∈out
  ·rw [if_pos h,An3,An3];by_cases h0:lexO cmp r s out=0
   ·rw [if_pos h0,if_pos h0,lexO,if_pos (Adg.1 h0 a h)]
   ·rw [if_neg h0,if_neg h0]
  ·rw [if_neg h,List.append_assoc];rfl
theorem Afm {b:Nat}:∀ {l out:List Nat},b∈Aar out l↔b∈out∨b∈l
 | [],out=>by simp [Aar]
 | a::l,out=>by
  rw [Aar,Afm];by_cases h:a∈out
  ·rw [if_pos h,List.mem_cons];constructor
   ·rintro (k | k)
    ·exact .inl k
    ·exact .inr (.inr k)
   ·rintro (k | rfl | k)
    ·exact .inl k
    ·exact .inl h
    ·exact .inr k
  ·rw [if_neg h,List.mem_append,List.mem_singleton,List.mem_cons,or_assoc]
end
end Go.Own
