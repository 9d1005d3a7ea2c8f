/- What the functions answer. No conditions. -/
import Derived.Test.YtmiedlcblpiemaaDoorBasisSoundLaw1
set_option linter.all false
namespace Go.Own
theorem Bdq {k x:ByteArray} {ks:List ByteArray}:x∈sIns k ks↔x=k∨x∈ks:=by
 unfold sIns
 split
 ·rename_i h;constructor
  ·exact .inr
  ·rintro (rfl | h')
   ·exact sAny.1 h
   ·exact h'
 ·rw [List.mem_append,List.mem_singleton];exact or_comm
theorem Azu {k:ByteArray} {ks:List ByteArray} (h:ks.Nodup):(sIns k ks).Nodup:=by
 unfold sIns
 split
 ·exact h
 ·rename_i hn;rw [List.nodup_append];exact ⟨h,by simp,fun x hx y hy=>by simp only [List.mem_singleton] at hy;subst hy;rintro rfl;exact hn (sAny.2 hx)⟩
theorem Asl:∀ {l acc:List ByteArray},acc.Nodup->(l.foldl (fun acc k=>sIns k acc) acc).Nodup/\∀ x,x∈l.foldl (fun acc k=>sIns k acc) acc↔x∈acc∨x∈l
 | [],acc,h=>⟨h,fun x=>by simp⟩
 | a::l,acc,h=>by
  obtain ⟨h1,h2⟩:=Asl (l:=l) (Azu (k:=a) h);refine ⟨h1,fun x=>?_⟩;simp only [List.foldl_cons];rw [h2 x,Bdq,List.mem_cons];constructor
  ·rintro ((h | h) | h)
   ·exact .inr (.inl h)
   ·exact .inl h
   ·exact .inr (.inr h)
  ·rintro (h | h | h)
   ·exact .inl (.inr h)
   ·exact .inl (.inl h)
   ·exact .inr h
theorem Aps {l:List ByteArray}:(dd l).Nodup:=(Asl List.nodup_nil).1
theorem Avm {l:List ByteArray} {x:ByteArray}:x∈dd l↔x∈l:=by
 have:=(Asl (l:=l) List.nodup_nil).2 x;unfold dd;rw [this];simp
theorem Be4 {α:Type}:∀ (l:List α),∃ m:List α,m.Nodup/\∀ x,x∈m↔x∈l
 | []=>⟨[],List.nodup_nil,fun _=>Iff.rfl⟩
 | a::l=>by
  obtain ⟨m,h1,h2⟩:=Be4 l;by_cases h:a∈m
  ·refine ⟨m,h1,fun x=>?_⟩;rw [h2 x,List.mem_cons];constructor
   ·exact .inr
   ·rintro (rfl | hx)
    ·exact (h2 _).1 h
    ·exact hx
  ·refine ⟨a::m,List.nodup_cons.2 ⟨h,h1⟩,fun x=>?_⟩;rw [List.mem_cons,List.mem_cons,h2 x]
theorem Bb6 {γ:Type} {L:List γ} {f g:γ->ByteArray} (hinj:∀ x∈L,∀ y∈L,f x++g x=f y++g y->f x=f y/\g x=g y) :
  (dd (L.map f)).length*(dd (L.map g)).length=(dd (L.map fun x=>f x++g x)).length↔∀ x∈L,∀ y∈L,∃ z∈L,f z=f x/\g z=g y:=by
 obtain ⟨C,c1,c2⟩:=Be4 (L.map fun x=>(f x,g x));have hC:C.length=(dd (L.map fun x=>f x++g x)).length:=by
  have hm:(C.map fun p=>p.1++p.2).Nodup:=by
   rw [List.nodup_iff_pairwise_ne] at c1 ⊢;rw [List.pairwise_map];refine c1.imp_of_mem fun {p q} hp hq hne he=>?_;obtain ⟨x,hx,rfl⟩:=List.mem_map.1 ((c2 p).1 hp);obtain ⟨y,hy,rfl⟩:=List.mem_map.1 ((c2 q).1 hq);obtain ⟨h1,h2⟩:=hinj x hx y hy he;exact hne (by rw [h1,h2])
  have e:∀ s,s∈(C.map fun p=>p.1++p.2)↔s∈dd (L.map fun x=>f x++g x):=fun s=>by
   rw [Avm,List.mem_map,List.mem_map];constructor
   ·rintro ⟨p,hp,rfl⟩;obtain ⟨x,hx,rfl⟩:=List.mem_map.1 ((c2 p).1 hp);exact ⟨x,hx,rfl⟩
   ·rintro ⟨x,hx,rfl⟩;exact ⟨(f x,g x),(c2 _).2 (List.mem_map.2 ⟨x,hx,rfl⟩),rfl⟩
  have l1:=hm.length_le_of_subset fun s hs=>(e s).1 hs;have l2:=(Aps (l:=L.map fun x=>f x++g x)).length_le_of_subset fun s hs=>(e s).2 hs;rw [List.length_map] at l1 l2;omega
 rw [← hC];exact Bbm Aps (fun a=>by rw [Avm,List.mem_map]) Aps (fun b=>by rw [Avm,List.mem_map]) c1 (fun p=>by rw [c2,List.mem_map])
end Go.Own
