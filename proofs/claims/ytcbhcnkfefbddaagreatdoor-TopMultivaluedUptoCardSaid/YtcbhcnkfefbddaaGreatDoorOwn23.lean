/- An interpreter of function bodies, sound. No conditions. -/
import Derived.Test.YtcbhcnkfefbddaaGreatDoorOwn22
set_option linter.all false
open List renaming getElem?_cons_succ->aA,getElem?_cons_zero->aM,set_cons_zero->a6,all_cons->bo,set_cons_succ->bB
open Option renaming map_some->aQ
open Bool renaming and_eq_true->ba
namespace Go.aS
open D
section
variable{E:Env}{f:Nat}{V:List Nat}{Q:dU->Fr->Prop}{m:cL}{O ρ:Type}
end
end Go.aS
namespace Go.aS
open D
section
variable{E:Env}{f k i s:Nat}{V:List Nat}{F fS aD:Fr}{O:Type}{e e':dE O}{l:List O}{x:D}
theorem aa1{d:D}{mk:List D->D}(Is:∀y,(mk [x,y]).elem 0=some [x,y]/\∀z,(mk [x,y]).df 0 [x,z]=some (mk [x,z]))(U:x.dC=false)(l8:x.node1=false)(ah:d=mk [x,.own (l.map e)])(ak:get fS s=d)(hf:mw e id e')(aa:cf fS s (mk [x,.sl (l.map e')])=aD)(ao:lg aD s=true):nW fS s 2=aD:=by
 subst ah;have aO:b6 fS s [(0,0)]=some x:=by
  simp only[b6,ak,D.bw,(Is _).1];rfl
 have gn:nW fS s 1=fS:=by
  simp only[nW,kX,aO,U,l8,Bool.false_eq_true,if_false]
 have I:b6 fS s [(0,1)]=some (.own (l.map e)):=by
  simp only[b6,ak,D.bw,(Is _).1];rfl
 have aB:setAt fS s [(0,1)] (.sl (l.map e'))=some aD:=by
  simp only[setAt,ak,D.cy,(Is _).1,aA,aM,(Is _).2,bB,a6,aQ,aa]
 unfold nW;rw[gn];simp only[kX,I,D.dC,if_true,o9 hf,aB,aQ];exact F9 (by simp) ao
theorem YZ(U:x.dC=false)(l8:x.node1=false)(aO:vH E f V k i F=fS)(ad:E.AL f k i=[(s,0)])(ak:get fS s=.box [x,.own (l.map e)])(hf:mw e id e')(aa:cf fS s (.box [x,.sl (l.map e')])=aD)(ao:lg aD s=true):trim E f V k i F=aD:=by
 unfold trim;rw[ad,aO];simp only[sY,ya,ak,List.length_cons,List.length_nil,show ¬((0:Nat)=2001)from by decide,if_false];exact aa1 (mk:=D.box) (λy=>⟨rfl,λz=>rfl⟩) U l8 rfl ak hf aa ao
end
section
variable{O:Type}{e e':dE O}{l:List (List O)}{F:Fr}{s:Nat}{x:D}
theorem Zr{x y:D}:∀{F:Fr},lg F s=true->lg (cf F s (.box [x,y])) s=true:=by
 intro F
 induction F with
 |nil=>intro h;first|exact h|rfl
 |cons z F aN=>
  intro h;obtain⟨k,e⟩:=z;simp only[lg,bo,ba]at h;simp only[cf]
  split
  .simp only[lg,bo,ba];exact⟨rfl,h.2⟩
  .simp only[lg,bo,ba];exact⟨h.1,aN h.2⟩
theorem R7(ak:get F s=.box [x,.own (l.map (dK e))])(hf:mw e id e')(ao:lg F s=true):∀n,n<=l.length->qw F s 1 n=cf F s (.box [x,.own ((l.take n).map (jG e')++(l.drop n).map (dK e))])
 |0,_=>by
  simp only[qw,List.take_zero,List.map_nil,List.nil_append,List.drop_zero];rw[<-ak];have:∀F:Fr,(∃d,get F s=d/\d≠.undef)->cf F s (get F s)=F:=by
   intro F
   induction F with
   |nil=>rintro⟨d,h,aa⟩;exact absurd h.symm aa
   |cons x F aN=>
    obtain⟨k,e⟩:=x;rintro⟨d,h,aa⟩;simp only[get]at h⊢;simp only[cf]
    split
    .rename_i aj;subst aj;rfl
    .rename_i aj;rw[if_neg aj]at h;rw[aN ⟨d,h,aa⟩]
  exact(this F ⟨_,ak,by simp⟩).symm
 |n+1,pH=>by
  have aN:=R7 ak hf ao n (by omega);simp only[qw,aN];have ah:l.drop n=l[n]::l.drop (n+1):=List.drop_eq_getElem_cons (by omega);have hlen:((l.take n).map (jG e')).length=n:=by simp;omega
  have w9:((l.take n).map (jG e')++(l.drop n).map (dK e))[n]?=some [.own (l[n].map e)]:=by
   rw[List.getElem?_append_right (by omega),hlen,Nat.sub_self,ah];rfl
  have I:b6 (cf F s (.box [x,.own ((l.take n).map (jG e')++(l.drop n).map (dK e))])) s [(0,1),(n,0)]=some (.own (l[n].map e)):=by
   simp only[b6,Gs,D.bw,D.elem,if_true,aA,aM,w9]
  have eJ:((l.take n).map (jG e')++(l.drop n).map (dK e)).set n [.sl (l[n].map e')]=(l.take (n+1)).map (jG e')++(l.drop (n+1)).map (dK e):=by
   rw[List.set_append_right _ _ (by omega),hlen,Nat.sub_self,ah,List.map_cons,a6,List.take_add_one,List.getElem?_eq_getElem (by omega),Option.toList_some,List.map_append,List.append_assoc];rfl
  have aa:setAt (cf F s (.box [x,.own ((l.take n).map (jG e')++(l.drop n).map (dK e))])) s [(0,1),(n,0)] (.sl (l[n].map e'))=some (cf F s (.box [x,.own ((l.take (n+1)).map (jG e')++(l.drop (n+1)).map (dK e))])):=by
   simp only[setAt,Gs,D.cy,D.elem,if_true,w9,aA,aM,D.df,bB,a6,aQ,SJ,eJ]
  simp only[kX,I,D.dC,if_true,o9 hf,aa,aQ];exact F9 (by simp) (Zr ao)
theorem Rf{E:Env}{f k i:Nat}{V:List Nat}{fS aD:Fr}(aO:vH E f V k i F=fS)(ad:E.AL f k i=[(s,2001)])(ak:get fS s=.box [x,.own (l.map (dK e))])(hf:mw e id e')(ao:lg fS s=true)(aa:cf fS s (.box [x,.own (l.map (jG e'))])=aD):trim E f V k i F=aD:=by
 unfold trim;rw[ad,aO];have hl:Mh fS s 1=l.length:=by
  have:b6 fS s [(0,1)]=some (.own (l.map (dK e))):=by
   simp only[b6,ak,D.bw,D.elem,if_true,aA,aM]
  simp only[Mh,this,List.length_map]
 simp only[sY,ya,ak,if_true,hl];rw[R7 ak hf ao _ (Nat.le_refl _)];simpa using aa
end
section
variable{O:Type}{e e':dE O}{l:List O}{F:Fr}{s:Nat}
end
section
variable{E:Env}{f:Nat}{call:Nat->List D->Option (D×List D)}{F:Fr}{o:Oper}{gE h2:Type}{gT:gE->Value}{ev:h2->D}{l:List (gE×h2)}{x:Operand}{t s:Nat}{ps:Path}
end
section
variable{E:Env}{f:Nat}{V:List Nat}{Q:dU->Fr->Prop}{m:cL}{O ρ:Type}
def Xn:cL->Nat
 | .op id _ _ _ _ _=>id
 |_=>0
def Xo(V:List Nat):cL->Fr
 | .op _ _ _ _ _ s=>norm V s.2
 |_=>[]
def PH:cL->Option (Code×List ki)
 | .op _ ops _ ks j _=>match ops[j]? with
  |none=>mX ks
  |some _=>none
 |_=>none
theorem W_(n:Nat)(aD:Fr)(e2:trim E f V 0 (Xn (runM E f V n m)) (Xo V (runM E f V n m))=aD)(k:c3 E f V Q (.gv ((PH (runM E f V n m)).getD (.ret,[])) aD))(K:(PH (runM E f V n m)).isSome=true:=by kernel_rfl):c3 E f V Q m:=by
 refine runK n m ⟨Gx _ ?_⟩;generalize runM E f V n m=k4 at e2 k K;unfold PH at k K
 split at k
 .simp only[Xn,Xo]at e2;simp only at k K
  split at k
  .rename_i hM;simp only[hM]at K;obtain⟨c,ad⟩:=Option.isSome_iff_exists.1 K;rw[ad]at k;simp only[sM,hM,ad,e2];exact k.out
  .rename_i hM;simp only[hM]at K;cases K
 .simp only at K;cases K
end
end Go.aS
