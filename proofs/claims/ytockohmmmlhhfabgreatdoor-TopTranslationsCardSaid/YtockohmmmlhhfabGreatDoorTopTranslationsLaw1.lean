/- What the functions answer. No conditions. -/
import Derived.Test.YtockohmmmlhhfabGreatDoorOwn23
import Derived.Test.YtockohmmmlhhfabGreatDoorBase1
set_option linter.all false
namespace Go.Own
section
variable {ρ:Type} {cmp:ρ->ρ->Nat->Int} {r s:ρ}
def lexO (cmp:ρ->ρ->Nat->Int) (r s:ρ):List Nat->Int
 | []=>0
 | a::l=>if cmp r s a=0 then lexO cmp r s l else cmp r s a
theorem Ail:∀ {l:List Nat},lexO cmp r s l=0↔∀ a∈l,cmp r s a=0
 | []=>by simp [lexO]
 | a::l=>by
  rw [lexO];by_cases h:cmp r s a=0
  ·rw [if_pos h,Ail];simp [h]
  ·rw [if_neg h];simp [h]
theorem Anr:∀ {l m:List Nat},lexO cmp r s (l++m)=if lexO cmp r s l=0 then lexO cmp r s m else lexO cmp r s l
 | [],m=>by simp [lexO]
 | a::l,m=>by
  rw [List.cons_append,lexO,lexO];by_cases h:cmp r s a=0
  ·rw [if_pos h,if_pos h,Anr]
  ·rw [if_neg h,if_neg h,if_neg h]
theorem Azf {A B:List Nat} {a:Nat} (hA:∀ b∈A,cmp r s b=0) (ha:cmp r s a≠0):lexO cmp r s (A++a::B)=cmp r s a:=by
 rw [Anr,if_pos (Ail.2 hA),lexO,if_neg ha]
theorem Azg:∀ {l:List Nat},lexO cmp r s l≠0->∃ A a B,l=A++a::B/\(∀ b∈A,cmp r s b=0)/\cmp r s a≠0
 | [],h=>absurd rfl h
 | a::l,h=>by
  rw [lexO] at h;by_cases ha:cmp r s a=0
  ·rw [if_pos ha] at h;obtain ⟨A,b,B,e,h1,h2⟩:=Azg h;refine ⟨a::A,b,B,by rw [e];rfl,fun c hc=>?_,h2⟩;rcases List.mem_cons.1 hc with rfl | hc
   ·exact ha
   ·exact h1 c hc
  ·exact ⟨[],a,l,rfl,fun b hb=>(by cases hb),ha⟩
def Ab2 (out:List Nat):List Nat->List Nat
 | []=>out
 | a::l=>Ab2 (if a∈out then out else out++[a]) l
theorem Ap3:∀ {l out:List Nat},lexO cmp r s (Ab2 out l)=lexO cmp r s (out++l)
 | [],out=>by rw [Ab2,List.append_nil]
 | a::l,out=>by
  rw [Ab2,Ap3];by_cases h:a∈out
  ·rw [if_pos h,Anr,Anr];by_cases h0:lexO cmp r s out=0
   ·rw [if_pos h0,if_pos h0,lexO,if_pos (Ail.1 h0 a h)]
   ·rw [if_neg h0,if_neg h0]
  ·rw [if_neg h,List.append_assoc];rfl
theorem Ap7 {b:Nat}:∀ {l out:List Nat},b∈Ab2 out l↔b∈out∨b∈l
 | [],out=>by simp [Ab2]
 | a::l,out=>by
  rw [Ab2,Ap7];by_cases h:a∈out
  ·rw [if_pos h,List.mem_cons];constructor
   ·rintro (k | k)
    ·exact .inl k
    ·exact .inr (.inr k)
   ·rintro (k | rfl | k)
    ·exact .inl k
    ·exact .inl h
    ·exact .inr k
  ·rw [if_neg h,List.mem_append,List.mem_singleton,List.mem_cons,or_assoc]
end
def free:List Bool->Nat
 | []=>0
 | b::l=>(if b then 0 else 1)+free l
structure CP (rows:Int) (cs:List (List Int)):Prop where
 two:∀ c∈cs,2<=c.length
 inc:∀ c∈cs,c.Pairwise (·<·)
 inn:∀ c∈cs,∀ i∈c,0<=i/\i<rows
 heads:cs.Pairwise fun c d=>c.headD 0<d.headD 0
 disj:cs.Pairwise fun c d=>∀ i∈c,i ∉ d
def idx:Nat->List (List Int)->List (Int×List Int)
 | _,[]=>[]
 | k,c::cs=>((k:Int),c)::idx (k+1) cs
section
variable {α:Type} [DecidableEq α]
end
theorem Asy {κ ν:Type} [DecidableEq κ] {k k':κ} {v:ν}:∀ {l:List (κ×ν)},mget k' (mset k v l)=if k=k' then some v else mget k' l
 | []=>by
  by_cases h:k=k'
  ·subst h;simp [mset,mget]
  ·simp [mset,mget,h,Ne.symm h]
 | (a,b)::l=>by
  have ih:=Asy (k:=k) (k':=k') (v:=v) (l:=l);simp only [mset];by_cases h1:k=a
  ·subst h1;simp only [if_true,mget];by_cases h2:k'=k
   ·subst h2;simp
   ·simp [h2,Ne.symm h2]
  ·simp only [if_neg h1,mget];by_cases h2:k'=a
   ·subst h2;simp [h1]
   ·simp only [if_neg h2];exact ih
end Go.Own
