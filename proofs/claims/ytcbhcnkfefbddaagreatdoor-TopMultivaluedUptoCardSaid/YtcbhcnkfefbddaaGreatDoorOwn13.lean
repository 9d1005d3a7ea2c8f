/- An interpreter of function bodies, sound. No conditions. -/
import Derived.Laws.MakeOwn
import Derived.Laws.BytesString
import Derived.Laws.IdiomStrings
import Derived.Test.YtcbhcnkfefbddaaGreatDoorOwn12
set_option linter.all false
open Option renaming map_eq_some_iff->aA,map_some->aM,map_none->hc,bind_some->kf,getD_some->nA,map->vN,isSome_iff_exists->X1,bind_eq_some_iff->X3
open List renaming map_append->aQ,mem_append->a6,mem_map->ba,replicate->bo,append_nil->bB,map_cons->bL,getElem?_eq_some_iff->b3,eq_of_mem_replicate->b5,perm_append_comm->cu,mem_filterMap->cz,append_assoc->cx,mem_cons_self->cT,mem_cons->c_,length->dR,perm_append_comm_assoc->eW,getElem?_eq_getElem->fx,all_eq_true->fB,length_append->gj,nodup_append->gC,map_nil->fR,getElem?_toArray->gD,mem_cons_of_mem->fW,getElem?_map->hb,eq_nil_of_length_eq_zero->hP,getElem?_set_self->hQ,getElem?_append_left->ie,mem_or_eq_of_mem_set->hR,mem_append_left->iZ,getElem?_eq_none->mS,cons_append->lI,mem_of_getElem?->mi,map_toArray->q8,toList_toArray->sv,getElem?_cons_zero->tQ,flatMap_eq_nil_iff->tR,all_cons->su,length_replicate->vK,take_append_drop->vL,mem_append_right->vM,mem_of_mem_drop->zC,mem_of_mem_take->Ch,map_replicate->Ci,set_cons_succ->Cj,ext_getElem?->Ck,drop_eq_getElem_cons->X0,getElem?_cons_succ->X2,length_map->P4,nil_append->P5,drop_eq_nil_of_le->X4,getElem?_set_ne->X6,replicate_succ->X7,getElem?_range->X9,zip_cons_cons->XL,mem_singleton->XM,size_toArray->XN,getElem?_set->XO,range'_succ->XQ,foldlM_cons->XR,forIn_cons->XS,foldlM_nil->XT,take_left->XV
open List.Perm renaming append_left->cc,trans->dn,append_right->X5,refl->XW
open Prod.mk renaming injEq->cD
open Prod renaming fst->cA,snd->P0
open Bool renaming false_eq_true->du,and_eq_true->eb,true_and->P6,not_false->XU
open Array renaming getElem?_setIfInBounds->hF,ext'->hq,length_toList->X8,toList_map->XP
open Nat renaming mul_le_mul_right->ig,add_mul->jr,zero_add->kH,add_zero->Jx,mul_one->PZ,le_refl->wF
open List.cons renaming injEq->zD
open Function renaming comp->P7
namespace Go.aS
open D
theorem xM(z:Array Value)(aG:0<z.size):∀m,(madeCells z (m*z.size)).toList=(bo m z.toList).flatten:=by
 intro m;apply Ck;intro j;have cq:(bo m z.toList).flatten.length=m*z.size:=by simp
 have:∀m j,j<m*z.size->(bo m z.toList).flatten[j]?=z[j%z.size]?:=by
  intro m
  induction m with
  |zero=>intro j aH;omega
  |succ m aN=>
   intro j aH;simp only[X7,List.flatten_cons];by_cases h:j<z.size
   .rw [ie (by simpa using h),Nat.mod_eq_of_lt h];simp
   .rw [List.getElem?_append_right (by simp;omega)];have I:j-z.toList.length<m*z.size:=by rw[Nat.succ_mul]at aH;simp;omega
    rw[aN _ I];have:(j-z.toList.length)%z.size=j%z.size:=by
     simp only[X8]
     conv=>rhs;rw[show j=(j-z.size)+z.size by omega]
     rw[Nat.add_mod_right]
    rw[this]
 by_cases aH:j<m*z.size
 .rw [this m j aH];have aa:j%z.size<z.size:=Nat.mod_lt _ aG;simp only[madeCells,XP,hb,Array.toList_range,X9 aH,aM];rw[Array.getElem?_eq_getElem aa,getElem!_pos z _ aa]
 .rw [mS (by simp[madeCells];omega),mS (by rw[cq];omega)]
section
variable{n:Nat}{R:Nat->Value}{M:Mem}{F aD:Fr}{G:bK}{H:dD}{a:Act}{w:World}
theorem Inv.akY{es:List (List T)}(h:Inv n R M F G (T.cO es++H) a w)(cap e:Nat)(sp:List Value):Inv n R M F G ((T.own w.heap.size cap e sp es).blocks++H) a (w.alloc (.cells (T.bH es++sp).toArray e)):=by
 have:=h.alloc (.cells (T.bH es++sp).toArray e);simpa[T.blocks]using this
theorem zF(m:Nat)(ts:List T):T.bH (bo m ts)=(bo m (T.bP ts)).flatten:=by
 rw[T.Jt,List.flatMap_def,Ci]
theorem JD(m:Nat){ts:List T}(h:T.bq ts=[]):T.cO (bo m ts)=[]:=by
 induction m with
 |zero=>simp[T.cO]
 |succ m aN=>simp[X7,T.cO,h,aN]
theorem F6{B:List Nat}{es:List (List T)}{aX:Fr}{bQ:bK}(h:Inv n R M aX bQ (T.cO es++[]) a w)(cap e:Nat)(sp:List Value)(al:T.iv es)(hw:T.wf M (.own w.heap.size cap e sp es))(dst:Option Nat)(ah:∀d,dst=some d->d<n)
  {w0:World} (eT:cN M B w0 M (keys (a8 bQ++(T.cO es++[]))) w):
  cJ n R M B w0 (fin aX dst (.own (es.map (·.map T.erase)))) (a.put dst (.slice (some ⟨w.heap.size,0,none⟩) es.length cap)) (w.alloc (.cells (T.bH es++sp).toArray e)):=by
 have I:=h.akY cap e sp;have:=kM (M:=M) (w:=w0) (B:=B) I (show(T.own w.heap.size cap e sp es).tidy from al) (p6 (show dV M (.own w.heap.size cap e sp es)from hw)) dst ah (by
  refine(eT.alloc _).weaken λg ak=>?_;simp only[T.blocks,keys,bB,aQ,bL,a6,c_]at ak⊢;rcases ak with ak|ak|ak
  .exact .inr (.inl ak)
  .exact .inl ak
  .exact .inr (.inr ak))
 simpa only[T.erase,T.lU,T.val]using this
theorem YR{P:Program}(h:Inv n R M F G [] a w){t e m k:Nat}(al:eD P t=some e){z:D}(aG:fC P e=some z){dl s0:D}{l c:Value}(hl:de M G dl l)(ad:de M G s0 c)(akx:asNat dl=some k)(akv:asNat s0=some m)
  (I:k=m) (aa:m*j5 P e<=281474976710656) (aB:m<=9223372036854775807) (aW:z.cells.length=aY P e) (bO:0<aY P e) (dst:Option Nat) (ah:∀d,dst=some d->d<n):
  ∃v w',(Instr.makeSlice t l c).run P w=.ok v w'/\cJ n R M (keys (a8 G)) w (fin F dst (.own (bo k z.cells))) (a.put dst v) w':=by
 obtain⟨i,v,u,i1,i2,rfl,rfl,i5,i6,i7⟩:=v_ (M:=M) aG;obtain⟨cF,ck,dG,fh,e0⟩:=q_ i6 i5;obtain⟨akH,O2,rfl,l1,l2⟩:=zM akx;obtain⟨akF,O0,rfl,h1,hD⟩:=zM akv;have el:=jd hl;have ct:=jd ad;subst el ct;have tq:u.cells.length=aY P e:=by rw[<-aW,<-cF];simp
 have tr:u.val.cells.size=aY P e:=by have:=congrArg dR ck;simp at this;omega
 have fO:i.size=aY P e:=by simp[aY,i1]
 have nb:i.bytes=j5 P e:=by simp[j5,i1]
 have hr:=run_make (P:=P) w t e i u.val (tX al) i1 i2 akH akF O2 O0 l1 (by omega) (by
  rw[nb];have:((m*j5 P e:Nat):Int)<=281474976710656:=by omega
  rw[Int.natCast_mul]at this;have aT:O0=(m:Int):=by omega
  rw[aT,Int.mul_comm];exact this) (by omega)
 refine⟨_,_,hr,?_⟩;have oQ:∀j,(bo j u.cells).length=j:=by simp
 have n6:(madeCells u.val.cells (O0.toNat*i.size))=(T.bH (bo k u.cells)++T.bH (bo (m-k) u.cells)).toArray:=by
  rw[<-T.tP,List.replicate_append_replicate,show k+(m-k)=m by omega,zF,ck,hD,fO,<-tr,<-xM _ (by omega)]
 rw[n6];have hw:T.wf M (.own w.heap.size m e (T.bH (bo (m-k) u.cells)) (bo k u.cells)):=by
  simp only[T.wf];refine⟨⟨aY P e,bO,?_,?_⟩,by simp;omega,by simpa[maxLen]using aB,?_,?_⟩
  .intro x U;rw[b5 U];exact tq
  .rw [kg (k:=aY P e) (by intro x U;rw[b5 U];exact tq)];simp only[oQ,<-jr];congr 1;omega
  .refine tT (M:=M) ?_;rw[T.mR];intro x U;rw[b5 U];exact fh
  .rw [T.mR];intro x U;rw[b5 U];exact fh
 have jI:T.cO (bo k u.cells)=[]:=JD k (by rw[e0,i7]);have:=F6 (B:=keys (a8 G)) (w0:=w) (es:=bo k u.cells) (by rw[jI];exact h) m e (T.bH (bo (m-k) u.cells)) (by rw[T.q4];intro x U;rw[b5 U];exact dG) hw dst ah (by rw[jI];simpa using cN.refl M (keys (a8 G)) w);simp only[Ci,cF,vK]at this;rw[l2,hD];exact this
theorem Rb{M:Mem}{k:Nat}:∀(ps:List (Nat×T)){es:List (List T)}{az:List (List D)},(∀x∈ps,x.2.tidy/\dV M x.2)->T.iv es->T.ha M es->(∀e∈es,e.length=k)->xE k (es.map (·.map T.erase)) (ps.map λx=>(x.1,x.2.erase))=some az ->
  ∃es',es'.map (·.map T.erase)=az/\Instr.fill (λi=>some (i*k,k)) (T.bH es).toArray (ps.map λx=>(x.1,x.2.val))=some (T.bH es').toArray/\T.iv es'/\T.ha M es'/\(∀e∈es',e.length=k)/\es'.length=es.length /\
   ∃rest,(T.cO es'++rest).Perm (T.cO es++T.bq (ps.map P0))
 |[],es,az,_,al,hw,aj,h=>by
  simp only[fR,xE,aE]at h;subst h;exact⟨es,rfl,rfl,al,hw,aj,rfl,[],by simp[T.bq]⟩
 |(i,t)::ps,es,az,af,al,hw,aj,h=>by
  simp only[bL,xE]at h
  split at h
  case isFalse=>cases h
  rename_i ad;obtain⟨xa,n4⟩:=ad;simp only[P4]at n4;obtain⟨c5,eo⟩:=af (i,t) (by simp);obtain⟨cF,ck,dG,fh,e0⟩:=q_ eo c5;have hlen:t.cells.length=k:=by rw[<-xa,<-cF];simp
  have V6:es[i]?=some es[i]:=fx n4;rw[<-cF,<-List.map_set (f:=List.map T.erase)]at h;have iU:∀e∈es.set i t.cells,e.length=k:=by
   intro x U;rcases hR U with U|rfl
   .exact aj x U
   .exact hlen
  have pN:T.iv (es.set i t.cells):=by
   rw[T.q4]at al⊢;intro x U;rcases hR U with U|rfl
   .exact al x U
   .exact dG
  have pO:T.ha M (es.set i t.cells):=by
   rw[T.mR]at hw⊢;intro x U;rcases hR U with U|rfl
   .exact hw x U
   .exact fh
  obtain⟨es',cb,cK,cS,dh,dr,gi,rest,uJ⟩:=Rb ps (λx U=>af x (by simp[U])) pN pO iU h;obtain⟨r,pL,mG⟩:=T.MQ V6;refine⟨es',cb,?_,cS,dh,dr,by rw[gi];simp,rest++T.bq es[i],?_⟩
  .have ag:i*k+k<=(T.bH es).length:=by
    rw[kg aj,<-Nat.succ_mul];exact ig _ n4
   rw[bL,Sg (place:=λi=>some (i*k,k)) rfl (v:=t.val) (by have:=congrArg dR ck;simp at this;omega) (by simpa using ag),<-cK];congr 1;rw[JL aj V6 hlen,ck]
  .rw [<-cx];refine(uJ.append_right _).trans ?_;simp only[bL,T.bq,e0];have b_:(T.cO (es.set i t.cells)).Perm (t.blocks++r):=by rw[<-e0];exact(mG _).symm
   refine((b_.append_right _).append_right _).trans ?_;refine dn ?_ (pL.append_right _);generalize T.bq (ps.map P0)=A;generalize T.bq es[i]=B;simp only[cx];refine dn ?_ (eW r B (t.blocks++A) |>.symm).symm;refine(eW _ _ _).trans ?_;refine cc r ?_;refine dn ?_ (eW _ _ _);exact cc _ cu
theorem YC{E:Env}(h:Inv n R M F G [] a w){t e m:Nat}(al:eD E.P t=some e){parts:Array (Nat×Operand)}(U:∀p∈parts.toList,Fits n p.2){z:D}(aG:fC E.P e=some z){az:List (Nat×D)}{aX:Fr}(Oq:iL E F parts.toList=some (az,aX))
  (I:m*aY E.P e<=16777216) (aa:z.cells.length=aY E.P e) (aB:0<aY E.P e) {es:List (List D)} (ae:xE (aY E.P e) (bo m z.cells) az=some es) (dst:Option Nat) (ah:∀d,dst=some d->d<n):
  ∃v w',(Instr.buildSlice t m (parts.map λx=>(x.1,a.eval x.2))).run E.P w=.ok v w'/\cJ n R M (keys (a8 G)) w (fin aX dst (.own es)) (a.put dst v) w':=by
 obtain⟨i,v,u,i1,i2,rfl,rfl,i5,i6,i7⟩:=v_ (M:=M) aG;obtain⟨cF,ck,dG,fh,e0⟩:=q_ i6 i5;obtain⟨ts,bQ,cb,cK,cS,dh,dr⟩:=Alt _ h U Oq;have tq:u.cells.length=aY E.P e:=by rw[<-aa,<-cF];simp
 have tr:u.val.cells.size=aY E.P e:=by have:=congrArg dR ck;simp at this;omega
 rw[<-cF,<-Ci (f:=List.map T.erase),<-cb]at ae;have gx:T.iv (bo m u.cells):=by rw[T.q4];intro x U;rw[b5 U];exact dG
 have wr:T.ha M (bo m u.cells):=by rw[T.mR];intro x U;rw[b5 U];exact fh
 obtain⟨es',aT,a5,ez,eK,jk,AN,rest,DM⟩:=Rb ts cS gx wr (by intro x U;rw[b5 U];exact tq) ae;have jI:T.cO (bo m u.cells)=[]:=JD m (by rw[e0,i7]);rw[jI,P5]at DM;simp only[vK]at AN;have hi:Inv n R M aX bQ (T.cO es'++[]) a w:=dh.less (rest:=rest) (by simpa using DM);have amr:m<=16777216:=by
  have:m*1<=m*aY E.P e:=Nat.mul_le_mul_left _ aB;omega
 have hw:T.wf M (.own w.heap.size m e [] es'):=by
  simp only[T.wf];exact⟨⟨aY E.P e,aB,jk,by simp[AN]⟩,by omega,by simp[maxLen];omega,by simp,eK⟩
 have:=F6 (B:=keys (a8 G)) (w0:=w) hi m e [] ez hw dst ah (cN.mf M w λg ak=>by
  have I:=Sub.less (A:=a8 bQ) (B:=T.cO es'++[]) (C:=T.bq (ts.map P0)++[]) (rest:=rest) (by simpa using DM) g ak;have aa:=dr g I
  simpa[keys]using aa)
 rw[aT,AN]at this;refine⟨_,_,?_,this⟩;have Iq:(Array.range (m*aY E.P e)).map ((if m*aY E.P e=0 then #[]else u.val.cells)[· % (if m*aY E.P e=0 then #[]else u.val.cells).size]!)=(T.bH (bo m u.cells)).toArray:=by
  rw[zF,ck];by_cases aO:m*aY E.P e=0
  .have:m=0:=by rcases Nat.mul_eq_zero.1 aO with h|h;exact h;omega
   subst this;simp[Array.range_zero']
  .simp only[aO,if_false];rw[<-tr,<-xM _ (by omega),Array.toArray_toList];rfl
 have hl:(parts.map λx=>(x.1,a.eval x.2)).toList=ts.map λx=>(x.1,x.2.val):=by rw[XP,cK]
 have ao:¬m*aY E.P e > 2^24:=by omega
 unfold Instr.buildSlice;simp only[Sem.run_bind,run_underlying (tX al),Result.andThen_ok,re i1,ao,if_false];by_cases aO:m*aY E.P e=0
 .simp only[aO,if_true]at Iq⊢;simp only[Sem.run_bind,Sem.run_pure,Result.andThen_ok,Iq,hl,a5,newRow,run_newObj];simp only[bB];rfl
 .simp only[aO,if_false]at Iq⊢;simp only[Sem.run_bind,Sem.run_pure,Result.andThen_ok,Ab i1 i2,Iq,hl,a5,newRow,run_newObj];simp only[bB];rfl
end
end Go.aS
namespace Go.aS
open D
theorem SL{P:Program}{u:Nat}(h:nw P u=true):(∃e,P.underlying u=some (.slice e))∨P.underlying u=some .string:=by
 unfold nw at h
 split at h
 .rename_i e he;exact .inl ⟨e,he⟩
 .rename_i he;exact .inr he
 .cases h
structure yr(P:Program)(w:World)(k m:Nat)(v:Value)(vs:List Value):Prop where
 len:vs.length=m*k
 lenOf:∀w',(Builtin.lenOf v).run P w'=.ok m w'
 first:∀w',w'.heap=w.heap->(Builtin.firstCells k m v).run P w'=.ok vs.toArray w'
section
variable{P:Program}{w:World}
theorem FX{t u ty e:Nat}{i:TypeInfo}(al:P.underlying t=some (.slice e))(hu:nw P u=true)(hi:P.info? e=some i){base:Option Addr}{sLen sCap m:Nat}{y:Value}{news:List Value}(aw:yr P w i.size m y news)(qN:sLen+m<=sCap):
  (Builtin.append_ #[t,u] ty #[.slice base sLen sCap,y]).run P w=(do
   if let some a:=base then storeCells (a.add (sLen*i.size)) news
   pure (.slice base (sLen+m) sCap):Sem Value).run P w:=by
 rcases SL hu with⟨e',qG⟩|qG
 .simp only[Builtin.append_,gD,tQ,X2,Sem.run_bind,run_underlying al,Result.andThen_ok,sizeOf,typeInfo,hi,Sem.run_pure,run_underlying qG,du,if_false,aw.lenOf,qN,if_true,XU,aw.first w rfl];cases base<;>simp[hi,aw.first w rfl]
 .simp only[Builtin.append_,gD,tQ,X2,Sem.run_bind,run_underlying al,Result.andThen_ok,sizeOf,typeInfo,hi,Sem.run_pure,run_underlying qG,du,if_false,aw.lenOf,qN,if_true,XU,aw.first w rfl];cases base<;>simp[hi,aw.first w rfl]
theorem JY{t u ty e:Nat}{i:TypeInfo}{z:Value}(al:P.underlying t=some (.slice e))(hu:nw P u=true)(hi:P.info? e=some i)(aG:i.zero=some z){base:Option Addr}{sLen sCap m:Nat}{y:Value}{news olds:List Value}(aw:yr P w i.size m y news)
  (hold:∀w',w'.heap=w.heap->(Builtin.firstCells i.size sLen (.slice base sLen sCap)).run P w'=.ok olds.toArray w') (yW:sCap<sLen+m) (Ni:((sLen+m:Nat):Int)<=9223372036854775807) (dM:Builtin.nextslicecap (sLen+m) sCap*i.bytes<=281474976710656):
  (Builtin.append_ #[t,u] ty #[.slice base sLen sCap,y]).run P w=.ok (.slice (some ⟨w.heap.size,0,none⟩) (sLen+m) (grownCap w (sLen+m) sCap e))
   (w.drew.alloc (.cells (olds.toArray++news.toArray++Builtin.zeroCells z.cells (grownCap w (sLen+m) sCap e-(sLen+m))) e)):=by
 have ao:¬(sLen+m<=sCap):=by omega
 have Vz:¬(9223372036854775807<((sLen:Int)+(m:Int))):=by omega
 have Vy:¬(281474976710656<Builtin.nextslicecap (sLen+m) sCap*i.bytes):=by omega
 have I:=aw.first w.drew rfl
 have aa:=hold w.drew rfl;rcases SL hu with⟨e',qG⟩|qG
 .simp [Builtin.append_,run_underlying al,run_underlying qG,sizeOf,typeInfo,zeroValue,hi,aG,aw.lenOf,ao,Vz,Vy,Question.forced,I,aa,newRow,grownCap];exact congrArg (λA=>w.drew.alloc (Obj.cells A e)) (hq (by simp))
 .simp [Builtin.append_,run_underlying al,run_underlying qG,sizeOf,typeInfo,zeroValue,hi,aG,aw.lenOf,ao,Vz,Vy,Question.forced,I,aa,newRow,grownCap];exact congrArg (λA=>w.drew.alloc (Obj.cells A e)) (hq (by simp))
end
theorem Cn(z:Array Value)(n:Nat):Builtin.zeroCells z n=madeCells z (n*z.size):=rfl
theorem acY{M:Mem}{d:D}{v:Value}(h:bu M d v):d.dC=false:=by
 cases d<;>simp_all [bu,D.dC]
theorem SS{M:Mem}:∀{cs:List D}{vs:List Value},c4 M cs vs->cs.any dC=false
 |[],_,_=>rfl
 |c::cs,vs,h=>by
  simp only[c4]at h;obtain⟨v,k9,_,I,aa⟩:=h;simp[acY I,SS aa]
theorem SV{M:Mem}:∀{es:List (List D)}{vs:List Value},fo M es vs->(es.any λc=>c.any dC)=false
 |[],_,_=>rfl
 |e::es,vs,h=>by
  simp only[fo]at h;obtain⟨v1,v2,_,I,aa⟩:=h;simp only[List.any_cons,SS I,SV aa,Bool.or_self]
theorem LX{M:Mem}{es:List (List D)}{v:Value}(h:bu M (.sl es) v):(es.any λc=>c.any dC)=false:=by
 simp only[bu]at h;obtain⟨A,n,c,_,_,_,_,h⟩:=h;rcases h with rfl|⟨g,b,k,vs,_,_,_,_,h⟩
 .rfl
 .exact SV h
section
variable{n:Nat}{R:Nat->Value}{M:Mem}{F aD:Fr}{G:bK}{H:dD}{a:Act}{w:World}
theorem ZK(M:Mem)(s:ByteArray):∃ts:List (List T),ts.map (·.map T.erase)=rF s/\T.bH ts=s.data.toList.map (λc=>Value.int .u8 c.toNat)/\T.iv ts/\T.ha M ts/\T.cO ts=[]:=by
 unfold rF;generalize s.data.toList=l
 induction l with
 |nil=>exact⟨[],rfl,rfl,trivial,trivial,by simp[T.cO]⟩
 |cons c l aN=>
  obtain⟨ts,cb,cK,cS,dh,dr⟩:=aN;refine⟨[.leaf (.lit (.int .u8 c.toNat)) (.int .u8 c.toNat)]::ts,by simp[cb,T.erase],by simp[T.bH,T.bP,T.val,cK],⟨⟨by simp[T.tidy],trivial⟩,cS⟩,⟨⟨.inr (by simp[bu,Value.oneCell']),trivial⟩,dh⟩,by simp[T.cO,T.bq,T.blocks,dr]⟩
theorem Y9{P:Program}{v:Value}{es:List (List D)}(h:Me M w v es){k:Nat}(aj:(es.all λc=>c.length==k)=true):∃g_:List (List T),g_.map (·.map T.erase)=es/\T.iv g_/\T.ha M g_/\yr P w k es.length v (T.bH g_):=by
 obtain⟨A,c,g_,rfl,aa,rfl,aW,bO,c7⟩:=h;have iD:∀e∈g_,e.length=k:=by
  intro e he;have:=fB.1 aj (e.map T.erase) (ba.2 ⟨e,he,rfl⟩);simpa using this
 have hl:=kg iD;refine⟨g_,rfl,aW,bO,by rw[hl];simp,λw'=>by simp[Builtin.lenOf],λw' pO=>?_⟩;rcases c7 with c7|⟨g,b,k',rfl,_,_,ad⟩
 .have:g_=[]:=by simpa using c7
  subst this;cases A with
  |none=>simp[Builtin.firstCells,T.bH]
  |some a=>simp[Builtin.firstCells,T.bH,loadCells,loadCellsFrom]
 .refine run_firstCells_some w' k _ ⟨g,b,none⟩ _ c _ (by rw[hl];simp) λj u hu=>?_;rw[Addr.add_plain];have:=ad j u hu;unfold World.cell? at this⊢;rw[pO];exact this
theorem Q6{E:Env}(h:Inv n R M F G H a w){y:Operand}(aw:Fits n y){new:List (List D)}(ao:jO E F y=some (new,aD)){k:Nat}(aj:(new.all λc=>c.length==k)=true)(hC:0<k):
  ∃dt bS,dt.map (·.map T.erase)=new/\T.iv dt/\T.ha M dt/\yr E.P w k new.length (a.eval y) (T.bH dt)/\Inv n R M aD bS (T.cO dt++H) a w/\Sub (a8 bS++(T.cO dt++H)) (a8 G++H):=by
 have plain:∀(d:D)(es:List (List D)),de M G d (a.eval y)->gU F d=some es->(es.any λc=>c.any dC)=false->(es.all λc=>c.length==k)=true ->
   ∃dt bS,dt.map (·.map T.erase)=es/\T.iv dt/\T.ha M dt/\yr E.P w k es.length (a.eval y) (T.bH dt)/\Inv n R M F bS (T.cO dt++H) a w/\Sub (a8 bS++(T.cO dt++H)) (a8 G++H):=λd es I aa aB aW=>by
  obtain⟨g_,cb,cK,cS,dh⟩:=Y9 (P:=E.P) (K7 h I aa) aW;have ag:T.cO g_=[]:=JW cK cS (by rw[cb];exact aB);exact⟨g_,G,cb,cK,cS,dh,by rw[ag];exact h,by rw[ag];exact Sub.refl _⟩
 simp only[jO]at ao;cases an:aZ E F y with
 |none=>simp[an]at ao
 |some d=>
  have av:=h.aZ aw an;simp only[an]at ao;cases d with
  |lit x=>
   cases x with
   |string s=>
    simp only[aE,cD]at ao;obtain⟨rfl,rfl⟩:=ao;have e:=jd av;obtain⟨ts,cb,cK,cS,dh,dr⟩:=ZK M s;have iE:(rF s).length=s.size:=by simp[rF]
    have iU:k=1∨s.size=0:=by
     by_cases aG:s.size=0
     .exact .inr aG
     .left;have hl:0<s.data.toList.length:=by simp only[X8];exact Nat.pos_of_ne_zero aG
      have:=fB.1 aj [.lit (.int .u8 (s.data.toList[0]).toNat)] (by unfold rF;exact ba.2 ⟨_,List.getElem_mem hl,rfl⟩);simp at this;omega
    refine⟨ts,G,cb,cS,dh,⟨?_,λw'=>?_,λw' _=>?_⟩,by rw[dr];exact h,by rw[dr];exact Sub.refl _⟩
    .rw [cK,iE];rcases iU with rfl|aG
     .simp
     .have:s.data.toList=[]:=hP (by simpa using aG);simp[this,aG]
    .rw [e];simp[Builtin.lenOf,iE]
    .rw [e,iE,cK];have hex:s.extract 0 s.size=s:=by
      apply ByteArray.ext;simp
     simp only[Builtin.firstCells,hex,Sem.run_pure];congr 1;apply hq;simp
   |_=>cases ao
  |sl es=>
   simp only[aE,cD]at ao;obtain⟨rfl,rfl⟩:=ao;exact plain (.sl es) es av rfl (LX av) aj
  |own es=>
   simp only[aE,cD]at ao;obtain⟨rfl,rfl⟩:=ao;cases es with
   |nil=>
    simp only[de]at av;refine⟨[],G,rfl,trivial,trivial,⟨by simp[T.bH],λw'=>?_,λw' _=>?_⟩,by simpa[T.cO]using h,by simpa[T.cO]using Sub.refl _⟩
    .rw [av];simp[Builtin.lenOf]
    .rw [av];simp[Builtin.firstCells,T.bH]
   |cons=>simp[de,fm,aJ,bu]at av
  |sub s ps off len=>
   cases he:gU F (.sub s ps off len)with
   |none=>simp[he]at ao
   |some es=>
    simp only[he]at ao
    split at ao
    .cases ao
    .rename_i U;simp only[aE,cD]at ao;obtain⟨rfl,rfl⟩:=ao;exact plain _ _ av he (by simpa using U) aj
  |alias s ps=>
   cases ak:aS.b6 F s ps with
   |none=>simp[ak]at ao
   |some c=>
    simp only[ak]at ao;cases c with
    |sl es=>
     simp only[aE,cD]at ao;obtain⟨rfl,rfl⟩:=ao;obtain⟨x,U,zf,Bl⟩:=av;rw[h.b6,U]at ak;simp only[aM,aE]at ak;have akh:=zZ ak;have hw:=h.me U zf;rw[akh]at hw;refine plain (.alias s ps) _ ⟨x,U,zf,Bl⟩ ?_ (LX (tZ hw (by simp))) aj;simp only[gU,h.b6,U,aM,ak]
    |own es=>
     simp only at ao;by_cases hex:(es.any λc=>c.any dC)=true
     .simp only[hex,if_true]at ao;cases y with
      |tmp t=>
       simp only at ao;cases al:aS.get F t with
       |own es'=>
        simp only[al,aE,cD]at ao;obtain⟨rfl,rfl⟩:=ao;rw[h.get]at al;have e6:=h.jq t;have cm:=h.iJ t;have cI:bg G t≠fP:=by intro aG;rw[aG]at al;simp[fP,T.erase]at al
        have hf:=tV cI;obtain⟨u,bQ,cb,cK,cS,dh,dr,gi⟩:=CP h (W:=λu=>u=bg G t) hf rfl;have eT:a.eval (.tmp t)=(bg G t).val:=h.eval (aw t rfl) hf;rcases om e6 al with⟨g,cap,el,sp,ts,aT,a5⟩|⟨aT,a5⟩
        .rw [aT]at cm e6;obtain⟨⟨k',_,iU,kr⟩,w2,hp,oh,k_⟩:=cm;have iD:∀e∈ts,e.length=k:=by
          intro e he;have:=fB.1 aj (e.map T.erase) (by rw[<-a5];exact ba.2 ⟨e,he,rfl⟩);simpa using this
         have hl:=kg iD;have ag:=(h.block (s:=t) (ps:=[]) (x:=bg G t) rfl (b:=(g,.cells (T.bH ts++sp).toArray el (0,0))) (by rw[aT];simp[T.blocks])).1;subst dh;have fZ:((T.cO ts++H)++[(g,Obj.cells (T.bH ts++sp).toArray el (0,0))]).Perm ((bg G t).blocks++H):=by
          rw[aT];simp only[T.blocks];exact List.perm_append_comm.trans (by simp)
         have hlen:es'.length=ts.length:=by rw[<-a5];simp
         refine⟨ts,bQ,a5,e6,k_,⟨by rw[hl,hlen],λw'=>?_,λw' pO=>?_⟩,dr.less fZ,Sub.trans (Sub.less fZ) gi⟩
         .rw [eT,aT];simp[T.val,Builtin.lenOf,hlen]
         .rw [eT,aT];simp only[T.val,hlen];refine run_firstCells_some w' k _ ⟨g,0,none⟩ _ cap _ hl λj u hu=>?_;rw[Addr.add_plain];have aH:=(b3.1 hu).1;rw[cell_of_row w' g (0+j) _ el (0,0) (by rw[pO];exact ag)];simp only[kH,gD];rw[ie aH];exact hu
        .subst a5;simp only[aZ,aE]at an;rw[h.get,al]at an;simp only[view,iY,D.alias.injEq]at an;obtain⟨rfl,rfl⟩:=an;simp only[aS.b6,D.bw,h.get,al,aE,D.own.injEq]at ak;subst ak;simp at hex
       |_=>simp[al]at ao
      |_=>cases ao
     .simp only[hex]at ao;simp only[du,if_false,aE,cD]at ao;obtain⟨rfl,rfl⟩:=ao;refine plain (.alias s ps) _ av ?_ (by simpa using hex) aj;simp only[gU,ak]
    |_=>cases ao
  |_=>cases ao
theorem aaG{E:Env}(h:Inv n R M F G [] a w){t u ty:Nat}{x y:Operand}(U:Fits n x)(aw:Fits n y)(hu:nw E.P u=true)(dst:Option Nat)(ah:∀d,dst=some d->d<n)(aC:rC E F t dst x y=some aD):
  ∃v w',(Builtin.append_ #[t,u] ty #[a.eval x,a.eval y]).run E.P w=.ok v w'/\cJ n R M (keys (a8 G)) w aD (a.put dst v) w':=by
 simp only[rC]at aC;cases ae:eD E.P t with
 |none=>simp[ae]at aC
 |some e=>
  simp only[ae]at aC;cases pQ:fC E.P e with
  |none=>simp[pQ]at aC
  |some z=>
   simp only[pQ]at aC;cases aj:c9 E F x with
   |none=>simp[aj]at aC
   |some r=>
    obtain⟨rJ,aX⟩:=r;cases rJ with
    |own es=>
     simp only[aj]at aC;cases ao:jO E aX y with
     |none=>simp[ao]at aC
     |some q=>
      obtain⟨new,bN⟩:=q;simp only[ao]at aC
      split at aC
      case isFalse=>cases aC
      rename_i ad;obtain⟨b_,cM,fI,oY,Jd,zr⟩:=ad;simp only[aE]at aC;subst aC;obtain⟨Jo,bQ,cb,cK,cS,dh,dr,gi⟩:=vU h U aj;obtain⟨dt,cr,cF,ck,dG,fh,e0,nV⟩:=Q6 dr aw ao zr oY;obtain⟨i,tS,vI,i1,i2,i3,i4,i5,i6,i7⟩:=v_ (M:=M) pQ;obtain⟨ar,aI,z3,z4,dg⟩:=q_ i6 i5;have fO:i.size=aY E.P e:=by simp[aY,i1]
      have nb:i.bytes=j5 E.P e:=by simp[j5,i1]
      have iF:tS.cells.size=aY E.P e:=by
       rw[<-fI,<-i3,<-ar,<-i4];have:=congrArg dR aI;simp at this⊢;omega
      rw[<-fO]at fh;have gq:=tX ae;rw[<-cK];have ky:dt.length=new.length:=by rw[<-cF];simp
      have vb:∀e'∈dt,e'.length=aY E.P e:=by
       intro e' he;have:=fB.1 zr (e'.map T.erase) (by rw[<-cF];exact ba.2 ⟨e',he,rfl⟩);simpa using this
      have grown:∀(base:Option Addr)(sCap:Nat)(to:List (List T)),to.map (·.map T.erase)=es->T.iv to->T.ha M to->(∀e'∈to,e'.length=aY E.P e)->sCap<es.length+new.length ->
        (∀w',w'.heap=w.heap->(Builtin.firstCells i.size es.length (.slice base es.length sCap)).run E.P w'=.ok (T.bH to).toArray w') ->
        Inv n R M bN cr (T.cO (to++dt)++[]) a w->Sub (a8 cr++(T.cO (to++dt)++[])) (a8 G) ->
        ∃v w',(Builtin.append_ #[t,u] ty #[.slice base es.length sCap,a.eval y]).run E.P w=.ok v w'/\cJ n R M (keys (a8 G)) w (fin bN dst (.own (es++new))) (a.put dst v) w':=by
       intro base sCap to t1 t2 t3 t4 t5 t6 t7 t8;have eU:to.length=es.length:=by rw[<-t1];simp
       have hr:=JY (ty:=ty) gq hu i1 i2 fh t6 t5 (by omega) (growslice_fits t5 (by rw[nb];exact b_));refine⟨_,_,hr,?_⟩;have gz:=grownCap_ge w (es.length+new.length) sCap e;have jx:grownCap w (es.length+new.length) sCap e<=maxLen:=grownCap_le_maxLen w _ sCap e (by simp[maxLen];omega);generalize cP:grownCap w (es.length+new.length) sCap e=C at gz jx;have n6:(T.bH to).toArray++(T.bH dt).toArray++Builtin.zeroCells tS.cells (C-(es.length+new.length))=(T.bH (to++dt)++T.bH (bo (C-(es.length+new.length)) vI.cells)).toArray:=by
        apply hq;rw[Cn];simp only[Array.toList_append,T.tP];rw[xM _ (by omega),zF,aI,i4]
       rw[n6];have OA:∀e'∈to++dt,e'.length=aY E.P e:=by
        intro e' he;rcases a6.1 he with he|he
        .exact t4 e' he
        .exact vb e' he
       have tq:vI.cells.length=aY E.P e:=by rw[<-fI,<-i3,<-ar];simp
       have hw:T.wf M (.own w.heap.size C e (T.bH (bo (C-(es.length+new.length)) vI.cells)) (to++dt)):=by
        simp only[T.wf];refine⟨⟨aY E.P e,oY,OA,?_⟩,by simp only[gj,eU,ky];omega,jx,?_,?_⟩
        .rw [kg (k:=aY E.P e) (by intro x U;rw[b5 U];exact tq)];simp only[vK,gj,eU,ky,<-jr];congr 1;omega
        .refine tT (M:=M) ?_;rw[T.mR];intro x U;rw[b5 U];exact z4
        .rw [T.mR]at t3 dG⊢;intro x U;rcases a6.1 U with U|U
         .exact t3 x U
         .exact dG x U
       have NF:Inv n R M bN cr (T.cO (to++dt)++[]) a w.drew:=t7.nc rfl;have:=F6 (B:=keys (a8 G)) (w0:=w) NF C e (T.bH (bo (C-(es.length+new.length)) vI.cells)) (by
        rw[T.q4]at t2 ck⊢;intro x U;rcases a6.1 U with U|U
        .exact t2 x U
        .exact ck x U) hw dst ah ((cN.mf M w λg ak=>t8 g ak).nc (w2:=w.drew) rfl rfl rfl rfl)
       rw[aQ,t1,cF,gj,eU,ky]at this;exact this
      rcases om cS cb with⟨g,cap,el,sp,ts,aT,a5⟩|⟨aT,a5⟩
      .subst aT;have eU:ts.length=es.length:=by rw[<-a5];simp
       obtain⟨⟨k',NR,iU,kr⟩,w2,hp,oh,k_⟩:=dh;have hM:∀e'∈ts,e'.length=aY E.P e:=by
        intro e' he;have:=fB.1 Jd (e'.map T.erase) (by rw[<-a5];exact ba.2 ⟨e',he,rfl⟩);simpa using this
       have oS:=kg hM;have jz:sp.length+es.length*aY E.P e=cap*aY E.P e:=by
        rw[eU]at kr;by_cases aG:es.length=0
        .have A1:cap=0:=w2.2 (by rw[eU];exact aG);simp only[aG,A1,Nat.zero_mul]at kr⊢;exact kr
        .have:k'=aY E.P e:=by
          cases ts with
          |nil=>simp at eU;omega
          |cons x ts=>rw[<-iU x (by simp),hM x (by simp)]
         rw[<-this];exact kr
       have qR:T.ha M ts:=k_;have qQ:T.iv ts:=cS;have rO:w.heap[g]?=some (.cells (T.bH ts++sp).toArray el (0,0)):=e0.bd.heap (g,.cells (T.bH ts++sp).toArray el (0,0)) (by simp[T.blocks]);simp only[T.val,eU];by_cases qN:es.length+new.length<=cap
       .have hr:=FX (ty:=ty) gq hu i1 fh (base:=some ⟨g,0,none⟩) qN;have c8:=run_storeCells_at E.P g (es.length*aY E.P e) el (T.bH dt) 0 _ w rO (by
         rw[kg vb,ky];simp only[XN,gj,oS,eU,Jx];rw[<-jr];have:(es.length+new.length)*aY E.P e<=cap*aY E.P e:=ig _ qN
         omega) (tT dG)
        simp only[Jx]at c8;have Ox:(T.bH dt).length=new.length*aY E.P e:=by rw[kg vb,ky]
        have n6:(T.bH ts++sp).take (es.length*aY E.P e)++T.bH dt++(T.bH ts++sp).drop (es.length*aY E.P e+(T.bH dt).length)=T.bH (ts++dt)++sp.drop (new.length*aY E.P e):=by
         have yZ:es.length*aY E.P e=(T.bH ts).length:=by rw[oS,eU]
         rw[yZ,XV,List.drop_length_add_append,T.tP,Ox]
        rw[n6]at c8;refine⟨.slice (some ⟨g,0,none⟩) (es.length+new.length) cap,w.setRow g (T.bH (ts++dt)++sp.drop (new.length*aY E.P e)).toArray,?_,?_⟩
        .rw [hr];simp only[Addr.add_plain,kH,fO,Sem.run_bind,c8,Result.andThen_ok,Sem.run_pure]
        .let er:T:=.own g cap el (sp.drop (new.length*aY E.P e)) (ts++dt)
         have fZ:((g,Obj.cells (T.bH ts++sp).toArray el (0,0))::(a8 cr++(T.cO (ts++dt)))).Perm (a8 cr++(T.cO dt++((T.own g cap el sp ts).blocks++[]))):=by
          simp only[T.blocks,bB,T.sX];refine List.perm_middle.symm.trans ?_;refine cc _ ?_;refine dn ?_ cu;simp
         have cg:=(e0.bd.perm fZ.symm).setRow (L':=(T.bH (ts++dt)++sp.drop (new.length*aY E.P e)).toArray);have u6:M g=none:=e0.bd.apart (g,.cells (T.bH ts++sp).toArray el (0,0)) (by simp[T.blocks]);have Ex:((g,Obj.cells (T.bH (ts++dt)++sp.drop (new.length*aY E.P e)).toArray el (0,0))::(a8 cr++(T.cO (ts++dt)))).Perm (a8 cr++(er.blocks++[])):=by
          simp only[er,T.blocks,bB];exact List.perm_middle.symm
         have hinv:Inv n R M bN cr (er.blocks++[]) a (w.setRow g (T.bH (ts++dt)++sp.drop (new.length*aY E.P e)).toArray):=
          e0.world (Mem.le_refl M) (cg.perm Ex) (e0.mem.setRow u6 _)
         have ng:T.wf M er:=by
          simp only[er,T.wf];refine⟨⟨aY E.P e,oY,?_,?_⟩,?_,hp,λx U=>oh x (zC U),?_⟩
          .intro e' he;rcases a6.1 he with he|he
           .exact hM e' he
           .exact vb e' he
          .have:(es.length+new.length)*aY E.P e<=cap*aY E.P e:=ig _ qN;rw[jr]at this;simp only[List.length_drop,gj,eU,ky,jr];omega
          .simp only[gj,eU,ky];omega
          .rw [T.mR]at qR dG⊢;intro x U;rcases a6.1 U with U|U
           .exact qR x U
           .exact dG x U
         have rR:g∈keys (a8 cr++(T.cO dt++((T.own g cap el sp ts).blocks++[]))):=by
          exact(fZ.map cA).mem_iff.1 (ba.2 ⟨_,cT,rfl⟩)
         have ia:∀k∈keys (a8 cr++(T.cO dt++((T.own g cap el sp ts).blocks++[]))),k∈keys (a8 G):=λk aj=>by
          have I:=nV k aj;have aa:=gi k I;simpa[keys]using aa
         have:=kM (M:=M) (w:=w) (B:=keys (a8 G)) hinv (show er.tidy by
          simp only[er,T.tidy,T.q4]at qQ ck⊢;intro x U;rcases a6.1 U with U|U
          .exact qQ x U
          .exact ck x U) (p6 (show dV M er from ng)) dst ah (((cN.refl M (keys (a8 G)) w).setRow (ia g rR) _).weaken λk aj=>by
           refine ia k ?_;have I:=(Ex.map cA).mem_iff.2 aj;have aa:k∈((g,Obj.cells (T.bH ts++sp).toArray el (0,0))::(a8 cr++(T.cO (ts++dt)))).map cA:=by simpa using I
           exact(fZ.map cA).mem_iff.1 aa)
         simp only[er,T.erase,T.lU,aQ,a5,cF,T.val,gj,eU,ky]at this;exact this
       .refine grown (some ⟨g,0,none⟩) cap ts a5 qQ qR hM (by omega) ?_ ?_ ?_
        .intro w' pO;refine run_firstCells_some w' i.size _ ⟨g,0,none⟩ _ cap _ (by rw[oS,eU,fO]) λj v av=>?_;rw[Addr.add_plain];have aH:=(b3.1 av).1;rw[cell_of_row w' g (0+j) _ el (0,0) (by rw[pO];exact rO)];simp only[kH,gD];rw[ie aH];exact av
        .refine e0.less (rest:=[(g,Obj.cells (T.bH ts++sp).toArray el (0,0))]) ?_;simp only[T.blocks,bB,T.sX];rw[cx];refine dn ?_ cu;refine eW _ _ _ |>.trans ?_
         refine dn (cc _ cu |>.trans ?_) (XW _);refine dn cu ?_;simp
        .intro k aj;have I:k∈keys (a8 cr++(T.cO dt++((T.own g cap el sp ts).blocks++[]))):=by
          simp only[T.blocks,keys,T.sX,aQ,a6,bB,bL,c_]at aj⊢;rcases aj with aj|aj|aj
          .exact .inl aj
          .exact .inr (.inr (.inr aj))
          .exact .inr (.inl aj)
         have aa:=gi k (nV k I);simpa[keys]using aa
      .subst aT a5;simp only[T.val];by_cases hm:new.length=0
       .have hr:=FX (ty:=ty) gq hu i1 fh (base:=none) (sLen:=0) (sCap:=0) (by omega);have Ba:new=[]:=hP hm;have EH:dt=[]:=hP (by omega);subst Ba EH;refine⟨.slice none 0 0,w,by rw[hr];simp,?_⟩;have:=kM (M:=M) (w:=w) (B:=keys (a8 G)) (t:=.nil) (by simpa[T.blocks,T.cO]using e0) (by simp[T.tidy]) (by simp[fg,T.wf]) dst ah (cN.mf M w λk aj=>by
         have I:k∈(a8 cr++(T.cO []++(T.nil.blocks++[]))).map cA:=by simpa[T.blocks,T.cO,keys]using aj
         have aa:=gi k (nV k I)
         simpa[keys]using aa)
        simpa[T.erase,T.val]using this
       .refine grown none 0 [] rfl trivial trivial (by simp) (by simp;omega) ?_ (by simpa[T.blocks]using e0) ?_
        .intro w' _;simp[Builtin.firstCells,T.bH]
        .intro k aj;have I:k∈(a8 cr++(T.cO dt++(T.nil.blocks++[]))).map cA:=by simpa[T.blocks]using aj
         have aa:=gi k (nV k I);simpa[keys]using aa
    |_=>simp[aj]at aC
end
end Go.aS
namespace Go.aS
open D
theorem ml(a b:ByteArray):(a==b)=true↔a=b:=by
 rcases a with⟨x⟩
 rcases b with⟨y⟩
 show(x==y)=true↔_;simp
theorem Qe{q:IntKind}:∀{l:List Value},l.all (OM q)=true->∃gb:ay,l=gb.map (Value.int q)
 |[],_=>⟨[],rfl⟩
 |v::l,h=>by
  simp only[su,eb]at h;obtain⟨gb,rfl⟩:=Qe h.2;cases v<;>simp[OM]at h;rename_i k n;obtain⟨rfl,_⟩:=h;exact⟨n::gb,rfl⟩
theorem rb{P:Program}{k:Nat}{v:Value}(h:hO P k v=true):
  (∃q n,P.underlying k=some (.int q)/\v=.int q n)∨(∃s,P.underlying k=some .string/\v=.string s) ∨
  (∃(m e:Nat)(q:IntKind)(gb:ay),P.underlying k=some (.array m e)/\P.underlying e=some (.int q)/\aY P e=1/\v=.agg (gb.map (Value.int q)).toArray/\gb.length=m):=by
 cases v with
 |int q n=>
  simp only[hO]at h
  split at h
  .rename_i q' au;simp only[beq_iff_eq]at h;subst h;exact .inl ⟨_,_,au,rfl⟩
  .cases h
 |string s=>
  simp only[hO]at h
  split at h
  .rename_i ae;exact .inr (.inl ⟨s,ae,rfl⟩)
  .cases h
 |agg cs=>
  simp only[hO]at h
  split at h
  .rename_i m e hm
   split at h
   .rename_i q he;simp only[eb,beq_iff_eq]at h;obtain⟨⟨I,aa⟩,aB⟩:=h;obtain⟨gb,aG⟩:=Qe aB;refine .inr (.inr ⟨m,e,q,gb,hm,he,aa,?_,?_⟩)
    .congr 1;exact hq (by simpa using aG)
    .have:=congrArg dR aG;simp at this;omega
   .cases h
  .cases h
 |_=>simp[hO]at h
theorem Rh(q:IntKind):∀(a b:ay),a.length=b.length->(((a.map (Value.int q)).zip (b.map (Value.int q))).all λx=>MU x.1 x.2)=(a==b)
 |[],[],_=>rfl
 |x::a,y::b,h=>by
  have aN:=Rh q a b (by simpa using h);simp only[bL,XL,su,aN];simp only[MU,beq_self_eq_true,P6];rfl
theorem Q0{q:IntKind}{a b:ay}(h:a.length=b.length):k1 (.agg (a.map (Value.int q)).toArray) (.agg (b.map (Value.int q)).toArray)=(a==b):=by
 simp only[k1];rw[Rh q a b h];simp[h]
section
variable{P:Program}
theorem Z8{P:Program}{e:Nat}{q:IntKind}(he:P.underlying e=some (.int q)):h0 P e=false:=by simp[h0,he]
theorem JZ{e:Nat}{q:IntKind}(he:P.underlying e=some (.int q)){cs:Array Value}{i:Nat}{v:Value}(av:cs[i]?=some v)(w:World):(part e cs i).run P w=.ok v w:=by
 unfold part;rw[Sem.run_bind,CA he w];simp[Z8 he,av]
theorem J0{e:Nat}{q:IntKind}(he:P.underlying e=some (.int q))(ae:aY P e=1)(w:World):(sizeOf e).run P w=.ok 1 w:=by
 obtain⟨i,hi⟩:=xL he;rw[re hi w,ae]
theorem Yl(d:Nat){t m e:Nat}{q:IntKind}(al:P.underlying t=some (.array m e))(he:P.underlying e=some (.int q))(ae:aY P e=1){a b:ay}(aC:a.length=m)(ag:b.length=m)(w:World):
    (Op.equalIn (d+1+1) t (.agg (a.map (Value.int q)).toArray) (.agg (b.map (Value.int q)).toArray)).run P w=.ok (a==b) w:=by
  rw[Op.equalIn];simp only[Sem.run_bind,run_underlying al,Result.andThen_ok,J0 he ae,PZ];rw[Std.Legacy.Range.forIn_eq_forIn_range'];have fO:(Std.Legacy.Range.size [0:m])=m:=by simp[Std.Legacy.Range.size]
  simp only[fO]
  have key : ∀ (k i : Nat), i + k = m -> (do
      let r <-forIn (List.range' i k 1) ((none,()):Option Bool×Unit) λi (_:Option Bool×Unit)=>do
        let __do_lift <-part e (a.map (Value.int q)).toArray i
        let agE <-part e (b.map (Value.int q)).toArray i
        let __do_lift <-Op.equalIn (d+1) e __do_lift agE
        if(!__do_lift)=true then pure (ForInStep.done (some false,()))else pure (ForInStep.yield (none,()))
      match r.1 with
      |some a=>pure a
      |none=>pure true:Sem Bool).run P w=.ok (a.drop i==b.drop i) w:=by
    intro k
    induction k with
    |zero=>
      intro i hi;rw[X4 (by omega),X4 (by omega)];simp
    |succ k aN=>
      intro i hi;have ta:i<a.length:=by omega
      have g8:i<b.length:=by omega
      have Pn:=JZ (P:=P) he (cs:=(a.map (Value.int q)).toArray) (i:=i) (v:=.int q a[i]) (by simp[hb,fx ta]) w;have ala:=JZ (P:=P) he (cs:=(b.map (Value.int q)).toArray) (i:=i) (v:=.int q b[i]) (by simp[hb,fx g8]) w;have alc:=run_equalIn_int (P:=P) w d e q q a[i] b[i] he;rw[X0 ta,X0 g8];have IM:=aN (i+1) (by omega);simp only[XQ,XS,Sem.run_bind,Pn,ala,alc,Result.andThen_ok]at IM⊢;by_cases dH:a[i]=b[i]
      · have I:(a[i]==b[i])=true:=by simpa using dH
        have aa:(a[i]::a.drop (i+1)==b[i]::b.drop (i+1))=(a.drop (i+1)==b.drop (i+1)):=by
          show(a[i]==b[i]&&_)=_;rw[I];rfl
        rw[aa,<-IM];simp[I]
      · have I:(a[i]==b[i])=false:=by simpa using dH
        have aa:(a[i]::a.drop (i+1)==b[i]::b.drop (i+1))=false:=by
          show(a[i]==b[i]&&_)=_;rw[I];rfl
        rw[aa];simp[I]
  have:=key m 0 (by omega);simp only[List.drop_zero,Sem.run_bind]at this;rw[<-this];have ad:∀{O fc:Type}(r:Result O)(f g:O -> World -> Result fc),(∀a w,f a w=g a w) -> r.andThen f=r.andThen g:=λr f g h=>by
    rw[show f=g from funext λa=>funext λw=>h a w]
  exact ad _ _ _ λa w'=>by rcases a with⟨_|_,_⟩<;>rfl
theorem Yy{t m e:Nat}{q:IntKind}(al:P.underlying t=some (.array m e))(he:P.underlying e=some (.int q))(ae:aY P e=1){a b:ay}(aC:a.length=m)(ag:b.length=m)(w:World):
  (Op.equal t (.agg (a.map (Value.int q)).toArray) (.agg (b.map (Value.int q)).toArray)).run P w=.ok (a==b) w:=Yl 9998 al he ae aC ag w
theorem Yx(d:Nat){k:Nat}{v:Value}(h:hO P k v=true)(b:Bool)(w:World):(Instr.checkKey b (d+1+1) k v).run P w=.ok () w:=by
  rcases rb h with⟨q,n,au,rfl⟩|⟨s,ae,rfl⟩|⟨m,e,q,gb,hm,he,fO,rfl,hl⟩
  · rw[Instr.checkKey];simp only[Sem.run_bind,run_underlying au,Result.andThen_ok,Sem.run_pure]
  · rw[Instr.checkKey];simp only[Sem.run_bind,run_underlying ae,Result.andThen_ok,Sem.run_pure]
  · rw[Instr.checkKey]
    simp only[Sem.run_bind,run_underlying hm,Result.andThen_ok,J0 he fO,PZ];rw[Std.Legacy.Range.forIn_eq_forIn_range'];have aj8:(Std.Legacy.Range.size [0:m])=m:=by simp[Std.Legacy.Range.size]
    simp only[aj8]
    have key : ∀ (c i : Nat), i + c = m -> (forIn (List.range' i c 1) PUnit.unit λi (_ : PUnit) => (do
        let __do_lift <-sizeOf e
        let __do_lift <-part e (gb.map (Value.int q)).toArray (i*__do_lift)
        Instr.checkKey b (d+1) e __do_lift
        pure (ForInStep.yield PUnit.unit):Sem (ForInStep PUnit))).run P w=.ok PUnit.unit w:=by
      intro c
      induction c with
      |zero=>intro i hi;simp
      |succ c aN=>
        intro i hi;have ta:i<gb.length:=by omega
        have Pn:=JZ (P:=P) he (cs:=(gb.map (Value.int q)).toArray) (i:=i) (v:=.int q gb[i]) (by simp[hb,fx ta]) w;have alb:(Instr.checkKey b (d+1) e (.int q gb[i])).run P w=.ok () w:=by
          rw[Instr.checkKey];simp only[Sem.run_bind,run_underlying he,Result.andThen_ok,Sem.run_pure]
        have IM:=aN (i+1) (by omega);simp only[XQ,XS,Sem.run_bind,J0 he fO,PZ,Pn,Result.andThen_ok,alb,Sem.run_pure];exact IM
    have:=key m 0 (by omega);rw[this];rfl
theorem xP{k:Nat}{v:Value}(h:hO P k v=true)(b:Bool)(w:World):(Instr.checkKey b 10000 k v).run P w=.ok () w:=Yx 9998 h b w
def hH(k:Value):List (Value×Nat×D×Value)->Nat->Option (Nat×D×Value)
 |[],_=>none
 |x::r,i=>if k1 k x.1 then some (i,x.2.2.1,x.2.2.2)else hH k r (i+1)
theorem Cv{kt:Nat}{k:Value}(aj:hO P kt k=true){es:List (Value×Nat×D×Value)}(fk:∀x∈es,hO P kt x.1=true)(w:World):
  (Instr.findKey kt k (T.entries es).toList).run P w=.ok ((hH k es 0).map λx=>(x.1,x.2.2)) w:=by
 unfold Instr.findKey T.entries;simp only[sv];rcases rb aj with⟨q,n,au,rfl⟩|⟨s,ae,rfl⟩|⟨m,e,q,gb,hm,he,fO,rfl,hl⟩
 .have:∀(es:List (Value×Nat×D×Value))(i:Nat),(∀x∈es,hO P kt x.1=true)->Instr.findNow (.int q) (.int q n) (es.map λx=>({ key:=x.1,val:=x.2.2.2,born:=x.2.1 }:MapEntry)) i=some ((hH (.int q n) es i).map λx=>(x.1,x.2.2)):=by
   intro es
   induction es with
   |nil=>intro i _;rfl
   |cons x es aN=>
    intro i U;obtain⟨q',eG,y5,ib⟩:∃q' eG,P.underlying kt=some (.int q')/\x.1=.int q' eG:=by
     rcases rb (U x (by simp))with⟨q',eG,a,b⟩|⟨s,a,_⟩|⟨m,e,q',gb,a,_⟩
     .exact ⟨q',eG,a,b⟩
     .rw [au]at a;cases a
     .rw [au]at a;cases a
    rw[au]at y5;cases y5;simp only[bL,Instr.findNow,hH,ib,Instr.sameNow,if_true,k1,beq_self_eq_true,P6];by_cases ao:(n==eG)=true
    .simp [ao]
    .have pG:(n==eG)=false:=by simpa using ao
     simp only[pG,du,if_false];exact aN (i+1) λy aw=>U y (by simp[aw])
  simp only[Sem.run_bind,run_underlying au,Result.andThen_ok,this es 0 fk,Sem.run_pure]
 .have:∀(es:List (Value×Nat×D×Value))(i:Nat),(∀x∈es,hO P kt x.1=true)->Instr.findNow .string (.string s) (es.map λx=>({ key:=x.1,val:=x.2.2.2,born:=x.2.1 }:MapEntry)) i=some ((hH (.string s) es i).map λx=>(x.1,x.2.2)):=by
   intro es
   induction es with
   |nil=>intro i _;rfl
   |cons x es aN=>
    intro i U;obtain⟨bk,ib⟩:∃bk,x.1=.string bk:=by
     rcases rb (U x (by simp))with⟨q',eG,a,b⟩|⟨bk,a,b⟩|⟨m,e,q',gb,a,_⟩
     .rw [ae]at a;cases a
     .exact ⟨bk,b⟩
     .rw [ae]at a;cases a
    simp only[bL,Instr.findNow,hH,ib,Instr.sameNow,k1];by_cases ao:(s==bk)=true
    .simp [ao]
    .have pG:(s==bk)=false:=by simpa using ao
     simp only[pG,du,if_false];exact aN (i+1) λy aw=>U y (by simp[aw])
  simp only[Sem.run_bind,run_underlying ae,Result.andThen_ok,this es 0 fk,Sem.run_pure]
 .have ask:∀(es:List (Value×Nat×D×Value))(i:Nat),(∀x∈es,hO P kt x.1=true)->(Instr.findAsking kt (.agg (gb.map (Value.int q)).toArray) (es.map λx=>({ key:=x.1,val:=x.2.2.2,born:=x.2.1 }:MapEntry)) i).run P w=.ok ((hH (.agg (gb.map (Value.int q)).toArray) es i).map λx=>(x.1,x.2.2)) w:=by
   intro es
   induction es with
   |nil=>intro i _;rfl
   |cons x es aN=>
    intro i U;obtain⟨sw,ib,pF⟩:∃sw:ay,x.1=.agg (sw.map (Value.int q)).toArray/\sw.length=m:=by
     rcases rb (U x (by simp))with⟨q',eG,a,b⟩|⟨bk,a,b⟩|⟨k4,e',q',sw,a,b,_,c,d⟩
     .rw [hm]at a;cases a
     .rw [hm]at a;cases a
     .rw [hm]at a;cases a;rw[he]at b;cases b;exact⟨sw,c,d⟩
    have au:=Yy (P:=P) hm he fO hl pF w;simp only[bL,Instr.findAsking,hH,ib,Sem.run_bind,au,Result.andThen_ok,Q0 (q:=q) (hl.trans pF.symm)];by_cases ao:(gb==sw)=true
    .simp [ao]
    .have pG:(gb==sw)=false:=by simpa using ao
     simp only[pG,du,if_false];exact aN (i+1) λy aw=>U y (by simp[aw])
  cases es with
  |nil=>simp[Instr.findNow,hH,run_underlying hm]
  |cons x es=>
   have ajA:Instr.findNow (.array m e) (.agg (gb.map (Value.int q)).toArray) ((x::es).map λx=>({ key:=x.1,val:=x.2.2.2,born:=x.2.1 }:MapEntry)) 0=none:=by
    simp[Instr.findNow,Instr.sameNow]
   simp only[Sem.run_bind,run_underlying hm,Result.andThen_ok,ajA];exact ask (x::es) 0 fk
end
theorem RK(k:Value):∀(es:List (Value×Nat×D×Value))(i:Nat),look k (es.map λx=>(x.1,x.2.2.1))=(hH k es i).map λx=>x.2.1
 |[],_=>rfl
 |x::es,i=>by
  simp only[bL,look,hH]
  split
  .rfl
  .exact RK k es (i+1)
theorem KA{k:Value}:∀{es:List (Value×Nat×D×Value)}{i j:Nat}{d:D}{v:Value},hH k es i=some (j,d,v)->∃x,i<=j/\es[j-i]?=some x/\x.2.2=(d,v)/\k1 k x.1=true/\∀bf,lH k bf (es.map λx=>(x.1,x.2.2.1))=(es.set (j-i) (x.1,x.2.1,bf,v)).map λx=>(x.1,x.2.2.1)
 |[],_,_,_,_,h=>by cases h
 |x::es,i,j,d,v,h=>by
  simp only[hH]at h
  split at h
  .rename_i aj;simp only[aE,cD]at h;obtain⟨rfl,rfl,rfl⟩:=h;exact⟨x,wF _,by simp,rfl,aj,λbf=>by simp[lH,aj]⟩
  .rename_i aj;obtain⟨y,I,aa,aB,aW,bO⟩:=KA h;have aH:j-i=(j-(i+1))+1:=by omega
   refine⟨y,by omega,by rw[aH];simpa using aa,aB,aW,λbf=>?_⟩;rw[aH];simp only[bL,lH,aj,du,if_false,Cj,bO bf]
theorem Rr{k:Value}:∀{es:List (Value×Nat×D×Value)}{i:Nat},hH k es i=none->∀bf,lH k bf (es.map λx=>(x.1,x.2.2.1))=(es.map λx=>(x.1,x.2.2.1))++[(k,bf)]
 |[],_,_,_=>rfl
 |x::es,i,h,bf=>by
  simp only[hH]at h
  split at h
  .cases h
  .rename_i aj;simp only[bL,lH,aj,du,if_false,Rr h bf,lI]
theorem Qu(q:IntKind)(n:Nat):∀(a:ay),(((a.map (Value.int q)).zip (a.map (Value.int q))).all λx=>Instr.sameBits n x.1 x.2)=true
 |[]=>rfl
 |x::a=>by
  simp only[bL,XL,su,Qu q n a,Bool.and_true];cases n<;>simp[Instr.sameBits]
theorem aa_{P:Program}{kt:Nat}{a b:Value}(aC:hO P kt a=true)(ag:hO P kt b=true)(h:k1 a b=true):a=b:=by
 rcases rb aC with⟨q,n,au,rfl⟩|⟨s,ae,rfl⟩|⟨m,e,q,gb,hm,he,fO,rfl,hl⟩
 .rcases rb ag with⟨q',eG,y5,rfl⟩|⟨bk,ds,rfl⟩|⟨k4,e',q',sw,e8,_⟩
  .simp [k1]at h;obtain⟨rfl,rfl⟩:=h;rfl
  .simp [k1]at h
  .rw [au]at e8;cases e8
 .rcases rb ag with⟨q',eG,y5,rfl⟩|⟨bk,ds,rfl⟩|⟨k4,e',q',sw,e8,_⟩
  .simp [k1]at h
  .simp only[k1]at h;rw[(ml _ _).1 h]
  .rw [ae]at e8;cases e8
 .rcases rb ag with⟨q',eG,y5,rfl⟩|⟨bk,ds,rfl⟩|⟨k4,e',q',sw,e8,qG,Om,rfl,pF⟩
  .rw [hm]at y5;cases y5
  .rw [hm]at ds;cases ds
  .rw [hm]at e8;cases e8;rw[he]at qG;cases qG;rw[Q0 (hl.trans pF.symm)]at h;have:gb=sw:=by simpa using h
   rw[this]
theorem QL{P:Program}{kt:Nat}{a:Value}(aC:hO P kt a=true):Instr.sameBits 10000 a a=true:=by
 show Instr.sameBits (9999+1) a a=true;rcases rb aC with⟨q,n,au,rfl⟩|⟨s,ae,rfl⟩|⟨m,e,q,gb,hm,he,fO,rfl,hl⟩
 .simp [Instr.sameBits]
 .simp only[Instr.sameBits];exact(ml _ _).2 rfl
 .simp only[Instr.sameBits,sv,beq_self_eq_true,P6];exact Qu q 9999 gb
theorem Z9{P:Program}{kt:Nat}{a:Value}(aC:hO P kt a=true):T.plainKey a=true:=by
 rcases rb aC with⟨q,n,au,rfl⟩|⟨s,ae,rfl⟩|⟨m,e,q,gb,hm,he,fO,rfl,hl⟩
 .rfl
 .rfl
 .simp [T.plainKey,T.OQ]
theorem acW{M:Mem}{d:D}{v:Value}(h:T.Cg M d v):∃t:T,t.erase=d/\t.val=v/\t.tidy/\dV M t/\t.blocks=[]:=by
 have leaf:bu M d v->∃t:T,t.erase=d/\t.val=v/\t.tidy/\dV M t/\t.blocks=[]:=λk=>by
  refine⟨.leaf d v,by simp[T.erase],by simp[T.val],?_,k,by simp[T.blocks]⟩;cases d<;>simp_all [T.tidy,bu]
 cases d with
 |agg cs=>
  obtain⟨vs,rfl,aa⟩:=h;obtain⟨ts,a2,bA,a3,a4,cj⟩:=xX aa;have ag:T.bq ts=[]:=by rw[T.sW,tR];exact cj
  exact⟨.agg ts,by simp[T.erase,T.hz,a2],by simp[T.val,bA],a3,a4,by simp[T.blocks,ag]⟩
 |own es=>
  cases es with
  |nil=>
   have h:v=.slice none 0 0:=h;subst h;exact⟨.nil,by simp[T.erase],by simp[T.val],by simp[T.tidy],by simp[dV,T.wf],by simp[T.blocks]⟩
  |cons=>simp[T.Cg,bu]at h
 |_=>exact leaf h
theorem SB{P:Program}{t k e:Nat}(h:Bx P t=some (k,e)):P.underlying t=some (.map k e):=by
 unfold Bx at h
 split at h
 .rename_i k' e' hm;simp only[aE,cD]at h;obtain⟨rfl,rfl⟩:=h;exact hm
 .cases h
theorem Sy{M:Mem}{G:bK}:∀{cs:List D}{vs l:List Value},ff (j1 M G) cs vs->xl cs=some l->vs=l
 |_,_,_,.nil,h=>by simp only[xl,aE]at h;exact h
 |_,_,l,@ff.cons _ _ _ c v cs _ p q,h=>by
  cases c with
  |lit x=>
   simp only[xl]at h;cases hl:xl cs with
   |none=>simp[hl]at h
   |some zl=>
    simp only[hl,aM,aE]at h;subst h;rw[Sy q hl];obtain⟨_,aa|⟨aa,_⟩⟩:=p
    .simp only[aJ,bu]at aa;rw[aa.1]
    .cases aa
  |_=>simp[xl]at h
theorem Ts{M:Mem}{G:bK}{d:D}{v k:Value}(h:de M G d v)(aj:keyOf d=some k):v=k:=by
 cases d with
 |lit x=>simp only[keyOf,aE]at aj;subst aj;exact jd h
 |agg cs=>
  obtain⟨vs,rfl,aa⟩:=h;simp only[keyOf]at aj;cases hl:xl cs with
  |none=>simp[hl]at aj
  |some l=>
   simp only[hl,aM,aE]at aj;rw[<-aj,Sy aa hl]
 |_=>simp[keyOf]at aj
section
variable{n:Nat}{R:Nat->Value}{M:Mem}{F aD:Fr}{G:bK}{H:dD}{a:Act}{w:World}
theorem Th(h:Inv n R M F G [] a w){t:T}(al:t.tidy)(ak:dV M t)(ag:t.blocks=[])(ok b:Bool)(dst:Option Nat)(ah:∀d,dst=some d->d<n):
  cJ n R M (keys (a8 G)) w (fin F dst (if ok then .bt [t.erase,.lit (.bool b)]else t.erase)) (a.put dst (if ok then .tuple #[t.val,.bool b]else t.val)) w:=by
 cases ok with
 |false=>
  have:=kM (M:=M) (w:=w) (B:=keys (a8 G)) (t:=t) (by rw[ag];exact h) al (p6 ak) dst ah (by rw[ag];simpa using cN.refl M (keys (a8 G)) w);simpa using this
 |true=>
  have jI:(T.bt [t,.leaf (.lit (.bool b)) (.bool b)]).blocks=[]:=by simp[T.blocks,T.bq,ag]
  have:=kM (M:=M) (w:=w) (B:=keys (a8 G)) (t:=.bt [t,.leaf (.lit (.bool b)) (.bool b)]) (by rw[jI];exact h) ⟨al,by simp[T.tidy],trivial⟩ (by
   intro c ad;simp only[c_,List.not_mem_nil,or_false]at ad;rcases ad with rfl|rfl
   .cases c with
    |leaf d v=>exact .inr ak
    |agg cs=>exact ak
    |bt=>exact ak.elim
    |_=>exact ak
   .exact .inr (by simp only[bu];exact⟨trivial,rfl⟩)) dst ah (by rw[jI];simpa using cN.refl M (keys (a8 G)) w)
  simpa[T.erase,T.g7,T.val,T.bP]using this
theorem abe{E:Env}(h:Inv n R M F G [] a w){t:Nat}{x kd d:D}{v kv:Value}(U:de M G x v)(aj:de M G kd kv){ok:Bool}(ah:xm E F t x kd ok=some d)(dst:Option Nat)(fq:∀d,dst=some d->d<n):
  ∃u,(Instr.lookup t v kv ok).run E.P w=.ok u w/\cJ n R M (keys (a8 G)) w (fin F dst d) (a.put dst u) w:=by
 unfold xm at ah
 split at ah
 case h_2=>cases ah
 rename_i kt e s ps amz hm NX;have l4:=Ts aj NX;subst l4;obtain⟨y,aw,fU,rfl⟩:=U
 split at ah
 case h_2=>cases ah
 rename_i es z ak aG;rw[h.b6,aw]at ak;simp only[aM,aE]at ak;obtain⟨r,clock,xs,rfl,rfl⟩:=Kx (h.k5 aw) ak;have hw:=h.me aw fU;simp only[T.wf]at hw
 split at ah
 case isFalse=>cases ah
 rename_i iD;simp only[eb,Bq,List.all_map,fB,P7]at iD;obtain⟨hC,jz⟩:=iD;have dI:=(h.block aw (b:=(r,.map (T.entries xs) clock)) (by simp[T.blocks])).1;have hu:=SB hm;have l3:=Cv (P:=E.P) hC jz w;obtain⟨i,tS,u,ar,aI,z3,z4,dg,i_,iM⟩:=v_ (M:=M) aG;have gA:∀PV,(Instr.lookup t (.map (some r)) kv ok).run E.P w=.ok PV w↔(if ok then Value.tuple #[(match(hH kv xs 0).map λx=>(x.1,x.2.2)with|some (_,v)=>v|none=>tS),.bool (hH kv xs 0).isSome]else(match(hH kv xs 0).map λx=>(x.1,x.2.2)with|some (_,v)=>v|none=>tS))=PV:=by
  intro PV;unfold Instr.lookup;simp only[Sem.run_bind,run_underlying hu,Result.andThen_ok,sA dI,Sem.run_pure,xP hC,l3];cases hf:hH kv xs 0 with
  |none=>simp[Ab ar aI]
  |some q=>simp
 rw[RK kv xs 0]at ah;cases hf:hH kv xs 0 with
 |none=>
  rw[hf]at ah gA;simp only[hc]at ah
  split at ah
  .cases ah
  simp only[aE]at ah;subst ah;have:=Th h dg i_ iM ok false dst fq;rw[z3,z4]at this;refine⟨_,(gA _).2 rfl,?_⟩;simpa using this
 |some q=>
  obtain⟨j,d0,v0⟩:=q;obtain⟨ab,_,ib,l8,II,_⟩:=KA hf;obtain⟨_,EL⟩:=hw ab (mi ib);rw[l8]at EL;obtain⟨er,t1,t2,t3,t4,t5⟩:=acW EL;rw[hf]at ah gA;simp only[aM,aE]at ah;subst ah;have:=Th h t3 t4 t5 ok true dst fq;rw[t1,t2]at this;refine⟨_,(gA _).2 rfl,?_⟩;simpa using this
theorem ri{M:Mem}{G:bK}(h:Inv n R M F G H a w){c c':D}{u:Value}(aa:aJ M G c u)(ae:fu F c=some c')(hf:c'.flat=true):c=c'/\∃x,c=.lit x:=by
 .cases c with
  |lit x=>simp only[fu,D.freeze,aE]at ae;exact⟨ae,x,rfl⟩
  |sl es=>simp only[fu,D.freeze,aE]at ae;subst ae;simp[D.flat]at hf
  |ref es=>simp only[fu,D.freeze,aE]at ae;subst ae;simp[D.flat]at hf
  |fn f cs=>
   simp only[fu,D.freeze,aA]at ae;obtain⟨_,_,rfl⟩:=ae;simp[D.flat]at hf
  |alias s ps=>
   obtain⟨x,U,ao,_⟩:=aa;simp only[fu,kW,h.b6,U,aM]at ae;have al:=h.k5 U;cases x with
   |leaf d v=>cases d<;>simp[T.node]at ao<;>simp only[T.erase,D.freeze,aE]at ae<;>subst ae<;>simp[D.flat]at hf
   |own g cap e sp es=>simp only[T.erase,D.freeze,aA]at ae;obtain⟨_,_,rfl⟩:=ae;simp[D.flat]at hf
   |nil=>simp only[T.erase,D.freeze,aA]at ae;obtain⟨_,_,rfl⟩:=ae;simp[D.flat]at hf
   |box g e cs=>simp only[T.erase,D.freeze,aA]at ae;obtain⟨_,_,rfl⟩:=ae;simp[D.flat]at hf
   |map=>simp[T.erase,D.freeze]at ae
   |bld=>simp[T.erase,D.freeze]at ae
   |agg=>simp[T.node]at ao
   |bt=>simp[T.node]at ao
  |sub s ps off len=>
   simp only[fu]at ae
   split at ae
   .split at ae
    .simp only[aE]at ae;subst ae;simp[D.flat]at hf
    .cases ae
   .cases ae
  |place s ps i o=>
   simp only[fu]at ae
   split at ae
   .simp only[aA]at ae;obtain⟨_,_,rfl⟩:=ae;simp[D.flat]at hf
   .split at ae
    .simp only[aE]at ae;subst ae;simp[D.flat]at hf
    .cases ae
   .cases ae
  |undef=>simp[fu,D.freeze]at ae
  |own=>simp[aJ,bu]at aa
  |box=>simp[aJ,bu]at aa
  |map=>simp[aJ,bu]at aa
  |bld=>simp[aJ,bu]at aa
  |agg=>simp[aJ,bu]at aa
  |bt=>simp[aJ,bu]at aa
theorem aaX{M:Mem}{G:bK}(h:Inv n R M F G H a w){c c':D}{u:Value}(ad:j1 M G c u)(ae:fu F c=some c')(hf:c'.flat=true):c=c'/\∃x,c=.lit x:=by
 obtain⟨I,aa|⟨rfl,rfl⟩⟩:=ad
 .exact ri h aa ae hf
 .simp only[fu,D.freeze,D.mB,aM,aE]at ae;subst ae;simp[D.flat]at hf
theorem Rt{M:Mem}{G:bK}(h:Inv n R M F G H a w):∀{cs b8:List D}{us:List Value},ff (j1 M G) cs us->jR F cs=some b8->D.lV b8=true->cs=b8/\c4 M cs us
 |_,_,_,.nil,ae,_=>by simp only[jR,aE]at ae;subst ae;exact⟨rfl,by simp[c4]⟩
 |_,_,_,@ff.cons _ _ _ c _ cs _ p q,ae,hf=>by
  simp only[jR]at ae
  split at ae
  .rename_i c' b8 I aa;simp only[aE]at ae;subst ae;simp only[D.lV,eb]at hf;obtain⟨aT,x,U⟩:=aaX h p I hf.1;obtain⟨a5,aW⟩:=Rt h q aa hf.2;refine⟨by rw[<-aT,<-a5],?_⟩;simp only[c4];refine⟨_,_,rfl,?_,aW⟩;subst U;obtain⟨_,k|⟨k,_⟩⟩:=p
   .exact k
   .cases k
  .cases ae
theorem aaY(h:Inv n R M F G H a w){d bf:D}{v:Value}(av:de M G d v)(ae:eV F d=some bf)(hf:bf.flat=true):T.Cg M bf v:=by
 cases d with
 |agg cs=>
  obtain⟨vs,rfl,aa⟩:=av;simp only[eV,aA]at ae;obtain⟨b8,ae,rfl⟩:=ae;simp only[D.flat]at hf;obtain⟨rfl,hr⟩:=Rt h aa ae hf;exact⟨vs,rfl,hr⟩
 |fn f cs=>
  simp only[eV,aA]at ae;obtain⟨b8,ae,rfl⟩:=ae;simp[D.flat]at hf
 |own es=>
  cases es with
  |nil=>simp only[eV,fu,D.freeze,D.mB,aM,aE]at ae;subst ae;simp[D.flat]at hf
  |cons=>simp[de,fm,aJ,bu]at av
 |lit x=>
  simp only[eV,fu,D.freeze,aE]at ae;subst ae;exact av
 |undef=>obtain⟨_,x,U⟩:=ri h (c:=.undef) (u:=v) av ae hf;cases U
 |sl es=>obtain⟨_,x,U⟩:=ri h (c:=.sl es) (u:=v) av ae hf;cases U
 |box es=>obtain⟨_,x,U⟩:=ri h (c:=.box es) (u:=v) av ae hf;cases U
 |ref es=>obtain⟨_,x,U⟩:=ri h (c:=.ref es) (u:=v) av ae hf;cases U
 |map es=>obtain⟨_,x,U⟩:=ri h (c:=.map es) (u:=v) av ae hf;cases U
 |bld t0 gn iG=>obtain⟨_,x,U⟩:=ri h (c:=.bld t0 gn iG) (u:=v) av ae hf;cases U
 |bt es=>obtain⟨_,x,U⟩:=ri h (c:=.bt es) (u:=v) av ae hf;cases U
 |alias s ps=>obtain⟨_,x,U⟩:=ri h (c:=.alias s ps) (u:=v) av ae hf;cases U
 |sub s ps i k=>obtain⟨_,x,U⟩:=ri h (c:=.sub s ps i k) (u:=v) av ae hf;cases U
 |place s ps i k=>obtain⟨_,x,U⟩:=ri h (c:=.place s ps i k) (u:=v) av ae hf;cases U
theorem dT.setObj{M:Mem}{w:World}{B:dD}{g:Nat}{o o':Obj}(h:dT M w ((g,o)::B)):dT M { w with heap:=w.heap.setIfInBounds g o' } ((g,o')::B) where
 nodup:=by simpa using h.nodup
 heap x U:=by
  have ak:=h.heap (g,o) cT;have bU:=(Array.getElem?_eq_some_iff.1 ak).1;rcases c_.1 U with rfl|U
  .simp only;rw[hF];simp only[if_true];rw[if_pos bU]
  .have cI:g≠x.1:=by
    intro he;have:=h.nodup;simp only[bL,List.nodup_cons,ba,not_exists,not_and]at this;exact this.1 x U he.symm
   simp only;rw[hF,if_neg cI];exact h.heap x (fW _ U)
 apart x U:=by
  rcases c_.1 U with rfl|U
  .exact h.apart (g,o) cT
  .exact h.apart x (fW _ U)
theorem fE.setObj{M:Mem}{w:World}(h:fE M w){g:Nat}(ak:M g=none)(o:Obj):fE M { w with heap:=w.heap.setIfInBounds g o }:=λk pU aj=>by
 have:g≠k:=by rintro rfl;rw[ak]at aj;cases aj
 simp only;rw[hF,if_neg this];exact h k pU aj
theorem cN.setObj{M b1:Mem}{B je:List Nat}{w w1:World}(e:cN M B w b1 je w1){g:Nat}(ak:g∈je)(o:Obj):cN M B w b1 je { w1 with heap:=w1.heap.setIfInBounds g o } where
 os:=e.os
 tape:=e.tape
 output:=e.output
 size:=by simpa using e.size
 out k aj cg:=by
  have:g≠k:=by
   rintro rfl;rcases e.own g ak with h|h
   .exact cg h
   .omega
  simp only;rw[hF,if_neg this];exact e.out k aj cg
 iW:=e.iW
 jC:=e.jC
 own:=e.own
theorem Zk(xs:List (Value×Nat×D×Value))(j:Nat)(x:Value×Nat×D×Value)(y:Value×Nat×D×Value)(aH:xs[j]?=some x)(aw:y.1=x.1)(ag:y.2.1=x.2.1):
  T.entries (xs.set j y)=(T.entries xs).modify j λe=>{ e with key:=x.1,val:=y.2.2.2 }:=by
 apply hq;apply Ck;intro k;simp only[T.entries,Array.toList_modify,hb,List.getElem?_modify,XO];by_cases aj:j=k
 .subst aj;have:=(b3.1 aH).1;have U:=(b3.1 aH).2;simp[this,U,aw,ag]
 .simp [aj]
theorem QE{E:Env}(h:Inv n R M F G [] a w){t:Nat}{m k v:Operand}(hm:Fits n m)(aj:Fits n k)(av:Fits n v)(hu:E0 E F t m k v=some aD):
  ∃w' bS,(Instr.mapUpdate t (a.eval m) (a.eval k) (a.eval v)).run E.P w=.ok () w'/\Inv n R M aD bS [] a w'/\cN M (keys (a8 G)) w M (keys (a8 bS)) w':=by
 unfold E0 at hu
 split at hu
 case h_2=>cases hu
 rename_i kt e s ps kd d A_ ajF cm ajJ;have alN:=h.aZ hm ajF;have alM:=h.aZ aj cm;have alO:=h.aZ av ajJ
 split at hu
 case h_2=>cases hu
 rename_i es kv bf ak NX jK;have l4:=Ts alM NX;subst l4;obtain⟨y,aw,fU,WZ⟩:=alN;rw[h.b6,aw]at ak;simp only[aM,aE]at ak;obtain⟨r,clock,xs,rfl,rfl⟩:=Kx (h.k5 aw) ak;have hw:=h.me aw fU;simp only[T.wf]at hw
 split at hu
 case isFalse=>cases hu
 rename_i ad;simp only[eb,Bq,List.all_map,fB,P7]at ad;obtain⟨⟨rQ,hC⟩,jz⟩:=ad;have EL:=aaY h alO jK rQ;have dI:=(h.block aw (b:=(r,.map (T.entries xs) clock)) (by simp[T.blocks])).1;have gq:=SB A_;have l3:=Cv (P:=E.P) hC jz w;have core:∀(vO:List (Value×Nat×D×Value))(yx:Nat),(vO.map λx=>(x.1,x.2.2.1))=lH (a.eval k) bf (xs.map λx=>(x.1,x.2.2.1))->(∀x∈vO,T.plainKey x.1=true/\T.Cg M x.2.2.1 x.2.2.2) ->
   ∃bS,Inv n R M aD bS [] a { w with heap:=w.heap.setIfInBounds r (.map (T.entries vO) yx) }/\cN M (keys (a8 G)) w M (keys (a8 bS)) { w with heap:=w.heap.setIfInBounds r (.map (T.entries vO) yx) }:=by
  intro vO yx gJ pO;obtain⟨Cb,dk,ea⟩:=qd aw
  let fw:T:=.map r yx vO
  obtain⟨bz,b_,cM,fI⟩:=ea fw (by simp[fw,T.val]);have rZ:((r,Obj.map (T.entries xs) clock)::Cb).Perm (a8 G++[]):=by
   rw[bB];refine dn ?_ dk;simp[T.blocks]
  have s9:=h.bd.perm rZ.symm;have u6:M r=none:=s9.apart _ cT;have D5:=s9.setObj (o':=.map (T.entries vO) yx);have xf:((r,Obj.map (T.entries vO) yx)::Cb).Perm (a8 (dS G s bz)++[]):=by
   rw[bB];refine dn ?_ fI;simp[fw,T.blocks]
  have ai8:mU G (dS G s bz) pc:=by
   refine uc.keeps (λbk p z aG zi=>?_) _;by_cases EE:bk=s
   .subst EE;rw[vP];by_cases af:pre ps p=true
    .obtain ⟨q,rfl⟩:=(wj ps p).1 af;rw[T.DX ps aw b_ q];rw[T.DV ps aw]at aG;cases q with
     |nil=>
      simp only[T.bw,aE]at aG⊢;subst aG;exact⟨fw,rfl,yx,vO,rfl⟩
     |cons Xh q=>obtain⟨amG,amI⟩:=Xh;simp[T.bw,T.elem]at aG
    .exact T.DY ps aw b_ p z (by simpa using af) aG zi
   .rw [sx G bz EE];exact⟨z,aG,T.pR zi⟩
  obtain⟨aX,b9,k2⟩:=h.path (Mem.le_refl M) b_ cM pc ai8 (show fw.tidy by simp[fw,T.tidy]) (show T.wf M fw by simp only[fw,T.wf];exact pO) (p5 aw fU) (D5.perm xf) (h.mem.setObj u6 _);have he:fw.erase=.map (lH (a.eval k) bf (xs.map λx=>(x.1,x.2.2.1))):=by simp only[fw,T.erase,gJ]
  rw[he]at b9;rw[b9]at hu;cases hu;rw[JS,JT]at k2;refine⟨_,k2,?_⟩;have ajU:r∈keys (a8 G):=by
   have:=(rZ.map cA).mem_iff.1 (ba.2 ⟨_,cT,rfl⟩:r∈_);simpa[keys]using this
  refine((cN.refl M (keys (a8 G)) w).setObj ajU _).weaken λg ak=>?_;have I:g∈(a8 (dS G s bz)++[]).map cA:=by simpa[keys]using ak
  have aa:=(xf.map cA).mem_iff.2 I;have aB:g∈((r,Obj.map (T.entries xs) clock)::Cb).map cA:=by simpa using aa
  have aW:=(rZ.map cA).mem_iff.1 aB;simpa[keys]using aW
 simp only[T.val]at WZ;have eJ:∀o,(setObj r o).run E.P w=.ok () { w with heap:=w.heap.setIfInBounds r o }:=λo=>by simp[setObj,Sem.run,dI]
 rw[WZ];cases hf:hH (a.eval k) xs 0 with
 |none=>
  rw[hf]at l3;obtain⟨bS,cF,ck⟩:=core (xs++[(a.eval k,clock,bf,a.eval v)]) (clock+1) (by rw[Rr hf];simp) (by
   intro x U;rcases a6.1 U with U|U
   .exact hw x U
   .simp only[XM]at U;subst U;exact⟨Z9 hC,EL⟩)
  refine⟨_,bS,?_,cF,ck⟩;unfold Instr.mapUpdate;simp only[Sem.run_bind,run_underlying gq,Result.andThen_ok,sA dI,xP hC,l3,hc,eJ];congr 4;apply hq;simp[T.entries]
 |some q=>
  obtain⟨j,d0,v0⟩:=q;obtain⟨ab,_,ib,l8,II,WW⟩:=KA hf;simp only[Nat.sub_zero]at ib WW;rw[hf]at l3;have Wl:a.eval k=ab.1:=aa_ hC (jz ab (mi ib)) II;obtain⟨bS,cF,ck⟩:=core (xs.set j (ab.1,ab.2.1,bf,a.eval v)) clock (by rw[WW bf];simp[List.map_set]) (by
   intro x U;rcases hR U with U|rfl
   .exact hw x U
   .exact ⟨(hw ab (mi ib)).1,EL⟩)
  refine⟨_,bS,?_,cF,ck⟩;have yS:(T.entries xs)[j]?=some { key:=ab.1,val:=ab.2.2.2,born:=ab.2.1 }:=by simp[T.entries,ib]
  have Og:=QL hC;unfold Instr.mapUpdate;simp only[Sem.run_bind,run_underlying gq,Result.andThen_ok,sA dI,xP hC,l3,aM,Instr.keyThatStays,yS,nA,<-Wl,Og,if_true,Sem.run_pure,eJ];congr 4;rw[Wl];exact(Zk xs j ab (ab.1,ab.2.1,bf,a.eval v) ib rfl rfl).symm
theorem aad{P:Program}(h:Inv n R M F G [] a w)(t:Nat)(dst:Option Nat)(ah:∀d,dst=some d->d<n):
  ∃v w',(Instr.makeMap t none).run P w=.ok v w'/\cJ n R M (keys (a8 G)) w (fin F dst (.map [])) (a.put dst v) w':=by
 have I:=h.alloc (.map #[] 0);have ag:(T.map w.heap.size 0 []).blocks=[(w.heap.size,.map #[] 0)]:=by simp[T.blocks,T.entries]
 have:=kM (M:=M) (w:=w) (B:=keys (a8 G)) (t:=.map w.heap.size 0 []) (by rw[ag];exact I) (by simp[T.tidy]) (by simp[fg,T.wf]) dst ah (by
  have e:=(cN.refl M (keys (a8 G)) w).alloc (.map #[] 0);refine e.weaken λg ak=>?_;rw[ag]at ak;simp only[keys,bB,aQ,bL,fR,a6,XM]at ak⊢;rcases ak with ak|ak
  .exact fW _ ak
  .rw [ak];exact cT)
 refine⟨_,_,?_,this⟩;simp only[Instr.makeMap,Sem.run_bind,Sem.run_pure,Result.andThen_ok,run_newObj,T.val];rfl
end
end Go.aS
namespace Go.aS
open D
section
variable{n:Nat}{R:Nat->Value}{M:Mem}{F aD:Fr}{G:bK}{H:dD}{a:Act}{w:World}
def Mem.add(M:Mem)(g:Nat)(o:Obj):Mem:=λk=>if k=g then some o else M k
theorem Mem.W7{M:Mem}{w:World}(hm:fE M w)(o:Obj):M.le (M.add w.heap.size o):=λg pU ak=>by
 have:=hm.lt ak;simp only[Mem.add];rw[if_neg (by omega)];exact ak
theorem fE.add{M:Mem}{w:World}(hm:fE M w)(o:Obj):fE (M.add w.heap.size o) (w.alloc o):=λg pU ak=>by
 simp only[Mem.add]at ak
 split at ak
 .rename_i h;subst h;cases ak;exact heap_alloc_new w o
 .exact hm.alloc o g pU ak
theorem dT.add{M:Mem}{w:World}{B:dD}(h:dT M w B)(o:Obj):dT (M.add w.heap.size o) (w.alloc o) B where
 nodup:=h.nodup
 heap x U:=by
  have:=h.lt U;rw[heap_alloc_old w o this];exact h.heap x U
 apart x U:=by
  have:=h.lt U;simp only[Mem.add];rw[if_neg (by omega)];exact h.apart x U
theorem cN.add{M b1:Mem}{B je:List Nat}{w w1:World}(e:cN M B w b1 je w1)(hm:fE b1 w1)(o:Obj):cN M B w (b1.add w1.heap.size o) je (w1.alloc o) where
 os:=e.os
 tape:=e.tape
 output:=e.output
 size:=by simp;exact Nat.le_succ_of_le e.size
 out k aj cg:=by rw[heap_alloc_old w1 o (Nat.lt_of_lt_of_le aj e.size)];exact e.out k aj cg
 iW:=Mem.le_trans e.iW (Mem.W7 hm o)
 jC g pU ak:=by
  simp only[Mem.add]at ak
  split at ak
  .rename_i h;subst h;exact .inr (.inr e.size)
  .exact e.jC g pU ak
 own:=e.own
theorem Inv.add(h:Inv n R M F G H a w)(o:Obj):Inv n R (M.add w.heap.size o) F G H a (w.alloc o):=
 h.world (Mem.W7 h.mem o) (h.bd.add o) (h.mem.add o)
theorem R4{M:Mem}:∀(l:List UInt8),fo M (l.map λc=>[D.lit (.int .u8 c.toNat)]) (l.map λc=>Value.int .u8 c.toNat)
 |[]=>by simp[fo]
 |c::l=>by
  simp only[bL,fo];exact⟨[.int .u8 c.toNat],_,rfl,by simp[c4,bu,Value.oneCell'],R4 l⟩
theorem Qj:∀{es:List (List D)}{l:List UInt8},wT es=some l->∃lC:ay,es=lC.map (λn=>[D.lit (.int .u8 n)])/\l=lC.map λn=>UInt8.ofNat n.toNat
 |[],l,h=>by simp only[wT,aE]at h;subst h;exact⟨[],rfl,rfl⟩
 |c::es,l,h=>by
  simp only[wT]at h
  split at h
  .rename_i b bs I aa;simp only[aE]at h;subst h;obtain⟨lC,rfl,rfl⟩:=Qj aa;unfold MR at I
   split at I
   .rename_i m
    split at I
    .simp only[aE]at I;subst I;exact⟨m::lC,rfl,rfl⟩
    .cases I
   .cases I
  .cases h
theorem Qx:∀{g_:List (List T)}{lC:ay}{M:Mem},g_.map (·.map T.erase)=lC.map (λn=>[D.lit (.int .u8 n)])->T.iv g_->T.ha M g_->T.bH g_=lC.map (Value.int .u8)
 |[],[],_,_,_,_=>rfl
 |[],_::_,_,h,_,_=>by simp at h
 |_::_,[],_,h,_,_=>by simp at h
 |ts::g_,n::lC,M,h,al,hw=>by
  simp only[bL,zD]at h;obtain⟨I,aa⟩:=h;have aN:=Qx aa al.2 hw.2
  match ts,I,al.1,hw.1 with
  |[t],I,On,Oz=>
   simp only[bL,fR,zD,and_true]at I;have he:=xN (d:=.lit (.int .u8 n)) I rfl (by simp) (by simp);have hr:T.wf M (.leaf (.lit (.int .u8 n)) t.val):=by rw[<-he];exact Oz.1
   have:=tZ hr (by simp);simp only[bu]at this;simp[T.bH,T.bP,this.1,aN]
  |[],I,_,_=>simp at I
  |_::_::_,I,_,_=>simp at I
theorem abK{a:Addr}{l:ay}{c:Nat}{w:World}{P:Program}(h:∀j u,(l.map (Value.int .u8))[j]?=some u->w.cell? (a.add j)=some u):
  (Conv.bytesToString (.slice (some a) l.length c)).run P w=.ok (.string ⟨(l.map λn=>UInt8.ofNat n.toNat).toArray⟩) w:=by
 have hl:=run_loadCells_list (P:=P) w a (l.map (Value.int .u8)) h;rw[P4]at hl;rw[run_bytesToString w a _ c l hl];congr 2;have:∀(lC:ay)(s:ByteArray),lC.foldl (λr n=>r.push (UInt8.ofNat n.toNat)) s=⟨s.data++(lC.map λn=>UInt8.ofNat n.toNat).toArray⟩:=by
  intro lC
  induction lC with
  |nil=>intro s;simp
  |cons n lC aN=>intro s;simp only[List.foldl_cons];rw[aN];simp[ByteArray.push]
 rw[this];have aO:ByteArray.empty.data.toList=[]:=rfl;congr 1;exact hq (by simp[aO])
theorem ZP{E:Env}(h:Inv n R M F G [] a w){s t:Nat}{x d:D}{v:Value}(U:de M G x v)(ah:wV E F s t x=some d)(dst:Option Nat)(fq:∀d,dst=some d->d<n):
  ∃u w',(convert s t v).run E.P w=.ok u w'/\cJ n R M (keys (a8 G)) w (fin F dst d) (a.put dst u) w':=by
 unfold wV at ah
 split at ah
 .rename_i k k' q m ae al;simp only[aE]at ah;subst ah;have e:=jd U;subst e;exact⟨_,w,by simp[convert,run_underlying ae,run_underlying al,Conv.intToInt],ih h (lM rfl) dst fq⟩
 .rename_i k q m ae al;simp only[aE]at ah;subst ah;have e:=jd U;subst e;exact⟨_,w,by simp[convert,run_underlying ae,run_underlying al,Conv.intToString],ih h (lM rfl) dst fq⟩
 .rename_i b ae al;simp only[aE]at ah;subst ah;have e:=jd U;subst e;exact⟨_,w,by simp[convert,run_underlying ae,run_underlying al],ih h (lM rfl) dst fq⟩
 .rename_i e b ae al
  split at ah
  .rename_i he
   split at ah
   case isFalse=>cases ah
   rename_i ag;simp only[aE]at ah;subst ah;have ev:=jd U;subst ev;refine⟨_,_,run_bytes_of_string w s t e b ae al he,?_⟩
   let o:Obj:=.cells (bytesRow b (grownCap w b.size 0 e)) e ((bytesRow b (grownCap w b.size 0 e)).size,(bytesRow b (grownCap w b.size 0 e)).size+1)
   have I:Inv n R (M.add w.heap.size o) F G [] a (w.drew.alloc o):=(h.nc (w':=w.drew) rfl).add o;have av:de (M.add w.heap.size o) G (.sl (rF b)) (.slice (some ⟨w.heap.size,0,none⟩) b.size (grownCap w b.size 0 e)):=by
    show bu _ _ _;simp only[bu];have iE:(rF b).length=b.size:=by simp[rF]
    refine⟨_,_,_,rfl,iE.symm,?_,?_,.inr ⟨w.heap.size,0,1,b.data.toList.map λc=>Value.int .u8 c.toNat,rfl,⟨_,e,_,by simp only[Mem.add,if_true];rfl,?_⟩,by omega,?_,R4 _⟩⟩
    .exact grownCap_ge w _ _ _
    .simp [maxLen];omega
    .intro j u hu;simp only[kH,bytesRow];rw[<-hu];have aH:=(b3.1 hu).1;simp at aH;rw[Array.getElem?_append_left (by simp;exact aH)];simp
    .intro x U;simp only[rF,ba]at U;obtain⟨c,_,rfl⟩:=U;rfl
   obtain⟨M2,cr,i2,a5⟩:=ih I av dst fq;refine⟨M2,cr,i2,?_⟩;exact(((cN.refl M (keys (a8 G)) w).nc (w2:=w.drew) rfl rfl rfl rfl).add (w1:=w.drew) (h.mem.nc rfl) o).trans a5
  .cases ah
 .rename_i e ae al
  split at ah
  .rename_i es he fk;cases hl:wT es with
   |none=>simp[hl]at ah
   |some l=>
    simp only[hl,aM,aE]at ah;subst ah;obtain⟨lC,rfl,rfl⟩:=Qj hl;obtain⟨A,c,g_,rfl,cK,cS,dh,dr,gi⟩:=K7 h U fk;refine⟨_,w,?_,ih h (lM rfl) dst fq⟩;rw[run_convert_bytes_string w s t e A _ c ae he al];have av:=Qx cS dh dr;cases A with
    |none=>
     rcases gi with gi|⟨g,b,k,uJ,_⟩
     .have:lC=[]:=by simpa using gi
      subst this;simp only[Conv.bytesToString,Sem.run_pure];rfl
     .cases uJ
    |some al5=>
     have hlen:(lC.map λn=>[D.lit (.int .u8 n)]).length=lC.length:=by simp
     rw[hlen];refine abK λj u hu=>?_;rcases gi with gi|⟨g,b,k,uJ,_,_,oH⟩
     .have:lC=[]:=by simpa using gi
      subst this;simp at hu
     .cases uJ;rw[Addr.add_plain];exact oH j u (by rw[av];exact hu)
  .cases ah
 .cases ah
theorem Sp{f:Int->Int->Int}{x y d:D}{u v:Value}(U:de M G x u)(aw:de M G y v)(h:Bo f [x,y]=some d):∃k p q,u=.int k p/\v=.int k q/\d=.lit (.int k (f p q)):=by
 unfold Bo at h
 split at h
 .rename_i heq;simp only[zD,and_true]at heq;obtain⟨rfl,rfl⟩:=heq
  split at h
  .rename_i aj;subst aj;simp only[aE]at h;subst h;exact⟨_,_,_,jd U,jd aw,rfl⟩
  .cases h
 .cases h
theorem Inv.Jk{E:Env}(h:Inv n R M F G H a w){t:Nat}(al:t<n){d:D}(ak:aS.get F t=d)(av:view t [] d=d):de M G d (a.eval (.tmp t)):=by
 have:=h.aZ (E:=E) (x:=.tmp t) (d:=d) (λs ae=>by cases ae;exact al) (by simp only[aS.aZ,ak,av]);exact this
theorem YO{t:T}(h:DO t.erase=true):t.blocks=[]:=by
 cases t with
 |leaf d v=>rfl
 |_=>simp[T.erase,DO]at h
theorem Zj{t:T}(h:AO t.erase=true):t.blocks=[]:=by
 cases t with
 |leaf d v=>rfl
 |agg cs=>
  simp only[T.erase,AO]at h;simp only[T.blocks]
  induction cs with
  |nil=>rfl
  |cons c cs aN=>
   simp only[T.g7,su,eb]at h;simp only[T.bq,YO h.1,aN h.2,bB]
 |_=>simp[T.erase,AO,DO]at h
theorem QC:∀{ts:List T},(T.g7 ts).all AO=true->T.bq ts=[]
 |[],_=>rfl
 |c::cs,h=>by
  simp only[T.g7,su,eb]at h;simp only[T.bq,Zj h.1,QC h.2,bB]
theorem adY{E:Env}(h:Inv n R M F G [] a w){x:Operand}(U:Fits n x)(dst:Option Nat)(ah:∀d,dst=some d->d<n)(hm:I3 E F dst x=some aD):cJ n R M (keys (a8 G)) w aD (a.put dst (a.eval x)) w:=by
 have plain:(aZ E F x).map (fin F dst)=some aD->cJ n R M (keys (a8 G)) w aD (a.put dst (a.eval x)) w:=λaf=>by
  cases an:aZ E F x with
  |none=>simp[an]at af
  |some d=>
   simp only[an,aM,aE]at af;subst af;exact ih h (h.aZ U an) dst ah
 unfold I3 at hm
 split at hm
 .rename_i t
  split at hm
  .rename_i az ak
   split at hm
   .rename_i NJ;simp only[aE]at hm;subst hm;rw[h.get]at ak;have cI:bg G t≠fP:=by intro aG;rw[aG]at ak;simp[fP,T.erase]at ak
    have hf:=tV cI;have eT:a.eval (.tmp t)=(bg G t).val:=h.eval (U t rfl) hf;have e6:=h.jq t;have jI:(bg G t).blocks=[]:=by
     cases al:bg G t with
     |bt ts=>rw[al]at ak;simp only[T.erase,D.bt.injEq]at ak;subst ak;exact QC NJ
     |leaf d v=>rfl
     |_=>rw[al]at ak;simp[T.erase]at ak
    have cm:fg M G (bg G t):=by
     have:=h.iJ t;cases al:bg G t with
     |bt ts=>rw[al]at this;exact this
     |leaf d v=>
      rw[al]at ak e6;simp only[T.erase]at ak;subst ak;simp[T.tidy]at e6
     |_=>rw[al]at ak;simp[T.erase]at ak
    have:=kM (M:=M) (w:=w) (B:=keys (a8 G)) (t:=bg G t) (by rw[jI];exact h) e6 cm dst ah (by rw[jI];simpa using cN.refl M _ w);rw[ak,<-eT]at this;exact this
   simp only[aE]at hm;subst hm;rw[h.get]at ak;have cI:bg G t≠fP:=by intro aG;rw[aG]at ak;simp[fP,T.erase]at ak
   have hf:=tV cI;obtain⟨u,bQ,cb,cK,cS,dh,dr,gi⟩:=CP h (W:=λu=>u=bg G t) hf rfl;have eT:a.eval (.tmp t)=(bg G t).val:=h.eval (U t rfl) hf;subst dh;have cm:fg M bQ (bg G t):=by
    have:=h.iJ t;cases al:bg G t with
    |bt ts=>rw[al]at this;exact this
    |leaf d v=>
     have e6:=h.jq t;rw[al]at ak e6;simp only[T.erase]at ak;subst ak;simp[T.tidy]at e6
    |_=>rw[al]at ak;simp[T.erase]at ak
   have:=kM (M:=M) (w:=w) (B:=keys (a8 G)) dr cS cm dst ah (cN.mf M w λg ak=>by
    have:=gi g ak
    simpa[keys]using this)
   rw[ak,<-eT]at this;exact this
  .exact plain hm
 .exact plain hm
theorem Ke{W:T->Prop}{d:D}{v:Value}(al:hW n R M aD G [] a w W d v)(rN:∀t,T.tidy t->W t->dV M t)(dst:Option Nat)(ah:∀d,dst=some d->d<n):cJ n R M (keys (a8 G)) w (fin aD dst d) (a.put dst v) w:=by
 obtain⟨t,bS,rfl,rfl,aB,aW,bO,c7⟩:=al;exact kM bO aB (p6 (rN t aB aW)) dst ah (cN.mf M w λg ak=>by
  have:=c7 g ak
  simpa[keys]using this)
theorem Kt{E:Env}{f:Nat}{V:List Nat}(h:Inv n R M F G [] a w){x:Operand}(U:Fits n x)(dst:Option Nat)(ah:∀d,dst=some d->d<n)(hm:rD E f V F dst x=some aD):cJ n R M (keys (a8 G)) w aD (a.put dst (a.eval x)) w:=by
 have take:(c9 E F x).map (λr=>fin r.2 dst r.1)=some aD->cJ n R M (keys (a8 G)) w aD (a.put dst (a.eval x)) w:=λaf=>by
  cases an:c9 E F x with
  |none=>simp[an]at af
  |some r=>
   obtain⟨d,aX⟩:=r;simp only[an,aM,aE]at af;subst af;exact Ke (vU h U an) (λ_ _ k=>k) dst ah
 unfold rD at hm
 split at hm
 .rename_i t;have al:=U t rfl
  split at hm
  .rename_i s ps ak;have av:de M G (.alias s ps) (a.eval (.tmp t)):=h.Jk (E:=E) al ak rfl
   split at hm
   .simp only[aE]at hm;subst hm;exact ih h av dst ah
   .cases an:mh F s ps with
    |none=>simp[an]at hm
    |some r=>
     obtain⟨d,aX⟩:=r;simp only[an,aM,aE]at hm;subst hm;exact Ke (KR h av an) (λt _ k=>xW k.1 k.2) dst ah
  .rename_i s ps i k ak;have av:de M G (.sub s ps i k) (a.eval (.tmp t)):=h.Jk (E:=E) al ak rfl
   split at hm
   .simp only[aE]at hm;subst hm;exact ih h av dst ah
   .cases an:zy F s ps i k with
    |none=>simp[an]at hm
    |some r=>
     obtain⟨d,aX⟩:=r;simp only[an,aM,aE]at hm;subst hm;exact Ke (Kp h av an) (λt _ k=>xW k.1 k.2) dst ah
  .rename_i s ps i k ak;have av:de M G (.place s ps i k) (a.eval (.tmp t)):=h.Jk (E:=E) al ak rfl
   split at hm
   .simp only[aE]at hm;subst hm;exact ih h av dst ah
   .cases hm
  .rename_i g cs ak;have av:de M G (.fn g cs) (a.eval (.tmp t)):=h.Jk (E:=E) al ak rfl;simp only[aE]at hm;subst hm;exact ih h av dst ah
  .rename_i d _ _ _ _
   split at hm
   .simp only[aE]at hm;subst hm;exact ih h (h.aZ (E:=E) U rfl) dst ah
   .exact take hm
 .exact take hm
theorem vR{B:List Nat}{w1:World}{M':Mem}{aX:Fr}{bQ:bK}(h:Inv n R M' aX bQ [] a w1)(dst:Option Nat)(ah:∀d,dst=some d->d<n)
  (e:cN M B w M' (keys (a8 bQ)) w1):cJ n R M B w (fin aX dst (.bt [])) (a.put dst (.tuple #[])) w1:=by
 have ag:(T.bt []).blocks=[]:=by simp[T.blocks,T.bq]
 have:=kM (M:=M) (w:=w) (B:=B) (t:=.bt []) (by rw[ag];exact h) (by simp[T.tidy,T.ho]) (by intro c ad;cases ad) dst ah (by rw[ag];simpa using e);simpa[T.erase,T.g7,T.val,T.bP]using this
theorem ab2{E:Env}(h:Inv n R M F G [] a w){t e:Nat}(al:eD E.P t=some e){s:Nat}{ps:Path}{off len:Nat}{v:Value}(av:de M G (.sub s ps off len) v){es:List (List D)}(ak:aS.b6 F s ps=some (.own es)){z:D}(aG:fC E.P e=some z)
  (I:off+len<=es.length) (aa:z.cells.length=aY E.P e) (aB:(es.all λc=>c.length==aY E.P e)=true) (aW:0<aY E.P e) {aX:Fr} (ae:aS.setAt F s ps (.own (es.take off++bo len z.cells++es.drop (off+len)))=some aX) (dst:Option Nat) (ah:∀d,dst=some d->d<n) {ty:Nat} {ts:List Nat}:
  ∃w',(Builtin.clear_ (t::ts).toArray ty #[v]).run E.P w=.ok (.tuple #[]) w'/\cJ n R M (keys (a8 G)) w (fin (np aX s ps) dst (.bt [])) (a.put dst (.tuple #[])) w':=by
 obtain⟨i,tS,u,i1,i2,rfl,rfl,i5,i6,i7⟩:=v_ (M:=M) aG;obtain⟨cF,ck,dG,fh,e0⟩:=q_ i6 i5;obtain⟨x,U,ao,cR⟩:=av;have zg:=h.me U ao;have r4:=h.k5 U;rw[h.b6,U]at ak;simp only[aM,aE]at ak;have tq:u.cells.length=aY E.P e:=by rw[<-aa,<-cF];simp
 have tr:u.val.cells.size=aY E.P e:=by have:=congrArg dR ck;simp at this;omega
 obtain⟨A,m,c,k,es',A',aT,a5,ez,eK,jk,AN,rfl,s3⟩:=cR;have gq:=tX al;have ajZ:(t::ts).toArray[0]?=some t:=by simp
 rcases om r4 ak with⟨g,cap,el,sp,er,rfl,rfl⟩|⟨rfl,rfl⟩
 .have iD:∀e'∈er,e'.length=aY E.P e:=by
   intro e' he;have:=fB.1 aB (e'.map T.erase) (ba.2 ⟨e',he,rfl⟩);simpa using this
  simp only[P4]at I;simp only[T.val,Value.slice.injEq]at aT;obtain⟨rfl,rfl,rfl⟩:=aT
  let gM:List (List T):=er.take off++bo len u.cells++er.drop (off+len)
  let x':T:=.own g cap el sp gM
  have y1:gM.length=er.length:=by simp[gM];omega
  have akf:x'.erase=.own ((er.map (·.map T.erase)).take off++bo len u.erase.cells++(er.map (·.map T.erase)).drop (off+len)):=by
   simp[x',gM,T.erase,T.lU,List.map_take,List.map_drop,cF]
  have IH:=kg iD;have r0:er=er.take off++((er.drop off).take len++er.drop (off+len)):=by
   rw[<-List.drop_drop,vL,vL]
  have jI:(T.cO gM++T.cO ((er.drop off).take len)).Perm (T.cO er):=by
   conv=>rhs;rw[r0]
   simp only[gM,T.sX,JD len (by rw[e0,i7]:T.bq u.cells=[]),bB];rw[cx];exact cc _ cu
  have lz:T.bH gM++sp=(T.bH er++sp).take (off*aY E.P e)++(Builtin.zeroCells u.val.cells len).toList++(T.bH er++sp).drop (off*aY E.P e+len*aY E.P e):=by
   have kZ:(Builtin.zeroCells u.val.cells len).toList=T.bH (bo len u.cells):=by
    rw[Cn,xM _ (by omega),zF,ck]
   have kY:off*aY E.P e+len*aY E.P e<=(T.bH er).length:=by
    rw[IH,<-jr];exact ig _ I
   rw[kZ,List.take_append_of_le_length (by omega),List.drop_append_of_le_length kY];have f_:(T.bH er).take (off*aY E.P e)=T.bH (er.take off):=by
    have yZ:(T.bH (er.take off)).length=off*aY E.P e:=by
     rw[kg (λx U=>iD x (Ch U)),List.length_take,Nat.min_eq_left (by omega)]
    conv=>lhs;rw[<-vL off er,T.tP,<-yZ,XV]
   rw[f_,<-jr,<-RV iD];simp[gM,T.tP]
  obtain⟨r,dk,ea⟩:=qd U;obtain⟨bz,b_,cM,fI⟩:=ea x' (by simp[x',T.val,y1]);have rZ:((g,Obj.cells (T.bH er++sp).toArray el (0,0))::(T.cO er++r)).Perm (a8 G++[]):=by
   rw[bB];refine dn ?_ dk;simp[T.blocks]
  have s9:=h.bd.perm rZ.symm;have u6:M g=none:=s9.apart _ cT;have D5:=s9.setRow (L':=(T.bH gM++sp).toArray);have xf:((a8 (dS G s bz)++[])++T.cO ((er.drop off).take len)).Perm ((g,Obj.cells (T.bH gM++sp).toArray el (0,0))::(T.cO er++r)):=by
   rw[bB];refine(fI.symm.append_right _).trans ?_;simp only[x',T.blocks,lI];refine List.Perm.cons _ ?_;rw[cx];refine(cc _ cu).trans ?_;rw[<-cx];exact jI.append_right r
  obtain⟨⟨k',NR,iU,kr⟩,w2,hp,oh,k_⟩:=zg;have zc:T.wf M x':=by
   simp only[x',T.wf];have eE:∀y∈gM,y∈er∨y=u.cells:=by
    intro y aw;simp only[gM,a6]at aw;rcases aw with(aw|aw)|aw
    .exact .inl (Ch aw)
    .exact .inr (b5 aw)
    .exact .inl (zC aw)
   refine⟨?_,by rw[y1];exact w2,hp,oh,?_⟩
   .rw [y1];by_cases aG:er.length=0
    .refine ⟨k',NR,λy aw=>?_,kr⟩;have:gM=[]:=hP (by omega);rw[this]at aw;cases aw
    .refine ⟨aY E.P e,aW,λy aw=>?_,?_⟩
     .rcases eE y aw with aw|rfl
      .exact iD y aw
      .exact tq
     .have:k'=aY E.P e:=by
       cases er with
       |nil=>simp at aG
       |cons a er=>rw[<-iU a (by simp),iD a (by simp)]
      rw[<-this];exact kr
   .rw [T.mR]at k_⊢;intro y aw;rcases eE y aw with aw|rfl
    .exact k_ y aw
    .exact fh
  have Bj:x'.tidy:=by
   simp only[x',T.tidy,T.q4]at r4⊢;intro y aw;simp only[gM,a6]at aw;rcases aw with(aw|aw)|aw
   .exact r4 y (Ch aw)
   .rw [b5 aw];exact dG
   .exact r4 y (zC aw)
  obtain⟨bN,b9,k2⟩:=h.path (Mem.le_refl M) b_ cM (j7 s ps) (Gv U b_ (λ_=>⟨rfl,by simp[x',T.val,y1]⟩)) Bj zc (p5 U ao) (D5.xG xf) (h.mem.setRow u6 _);rw[akf,ae]at b9;cases b9;have rR:g∈keys (a8 G):=by
   have:=(rZ.map cA).mem_iff.1 (ba.2 ⟨_,cT,rfl⟩:g∈_);simpa[keys]using this
  have eT:cN M (keys (a8 G)) w M (keys (a8 (qj (j7 s ps) (dS G s bz)))) (w.setRow g (T.bH gM++sp).toArray):=by
   rw[p4];refine((cN.refl M (keys (a8 G)) w).setRow rR _).weaken λy aw=>?_;have a2:y∈((a8 (dS G s bz)++[])++T.cO ((er.drop off).take len)).map cA:=by
    rw[bB,aQ];exact iZ _ aw
   have bA:=(xf.map cA).mem_iff.1 a2;have a3:y∈((g,Obj.cells (T.bH er++sp).toArray el (0,0))::(T.cO er++r)).map cA:=by simpa using bA
   have a4:=(rZ.map cA).mem_iff.1 a3;simpa[keys]using a4
  refine⟨_,?_,vR k2 dst ah eT⟩;have rO:w.heap[g]?=some (.cells (T.bH er++sp).toArray el (0,0)):=s9.heap _ cT;by_cases Il:len=0
  .subst Il;have:T.bH gM++sp=T.bH er++sp:=by simp[gM]
   rw[this,setRow_self w g _ el (0,0) rO];cases A'<;>simp[Builtin.clear_,run_underlying gq]
  .have c2:A'=some ⟨g,off*aY E.P e,none⟩:=by
    rcases s3 with s3|s3
    .have l4:k=aY E.P e:=by
      simp only[T.erase,T.lU,D.own.injEq,reduceCtorEq,or_false]at a5;cases er with
      |nil=>simp at I;omega
      |cons a er=>
       have:=eK (a.map T.erase) (by rw[<-a5];simp);rw[<-iD a (by simp)];simpa using this.symm
     rw[s3,l4];simp[Addr.add_plain]
    .omega
   rw[c2];have iF:(Builtin.zeroCells u.val.cells len).toList.length=len*aY E.P e:=by simp[size_zeroCells,tr]
   have OI:∀v∈(Builtin.zeroCells u.val.cells len).toList,v.oneCell'=true:=by
    rw[Cn,xM _ (by omega),<-ck,<-zF];refine tT (M:=M) ?_;rw[T.mR];intro y aw;rw[b5 aw];exact fh
   have c8:=run_storeCells_at E.P g (off*aY E.P e) el (Builtin.zeroCells u.val.cells len).toList 0 _ w rO (by
    rw[iF];simp only[XN,gj,IH,Jx];rw[<-jr];have:(off+len)*aY E.P e<=er.length*aY E.P e:=ig _ I
    omega) OI
   simp only[Jx,iF]at c8;rw[<-lz]at c8;obtain⟨q,rfl⟩:∃q,len=q+1:=⟨len-1,by omega⟩
   simp only[Builtin.clear_,ajZ,gD,tQ,Sem.run_bind,run_underlying gq,Result.andThen_ok,Ab i1 i2,c8,Sem.run_pure]
 .simp only[List.length_nil,Nat.le_zero_eq]at I;obtain⟨rfl,rfl⟩:off=0/\len=0:=by omega
  obtain⟨r,dk,ea⟩:=qd U;obtain⟨bz,b_,cM,fI⟩:=ea .nil rfl;have dI:dT M w (a8 (dS G s bz)++[]):=by
   refine h.bd.perm ?_;rw[bB,bB];exact dk.symm.trans fI
  obtain⟨bN,b9,k2⟩:=h.path (Mem.le_refl M) b_ cM (j7 s ps) (Gv U b_ (λ_=>⟨rfl,rfl⟩)) r4 zg (p5 U ao) dI h.mem;simp only[T.erase]at b9;simp only[List.take_nil,List.replicate_zero,List.drop_nil,bB]at ae;rw[ae]at b9;cases b9;refine⟨w,by cases A'<;>simp[Builtin.clear_,run_underlying gq],vR k2 dst ah ?_⟩;rw[p4];refine cN.mf M w λy aw=>?_;exact((dk.symm.trans fI).map cA).mem_iff.2 aw
end
end Go.aS
namespace Go.aS
open D
def Has(M:Mem)(B:dD):Prop:=∀b∈B,M b.1=some b.2
theorem Has.left{M:Mem}{A B:dD}(h:Has M (A++B)):Has M A:=λb ag=>h b (iZ _ ag)
theorem Has.right{M:Mem}{A B:dD}(h:Has M (A++B)):Has M B:=λb ag=>h b (vM _ ag)
theorem Has.mono{M M':Mem}{A:dD}(bW:M.le M')(h:Has M A):Has M' A:=λb ag=>bW _ _ (h b ag)
mutual
theorem zR{M:Mem}:∀(d:D)(v:Value),bu M d v->d.freeze=some d
 | .lit _,_,_=>by simp[D.freeze]
 | .sl _,_,_=>by simp[D.freeze]
 | .ref _,_,_=>by simp[D.freeze]
 | .fn f cs,v,h=>by
  simp only[bu]at h;obtain⟨vs,_,aa⟩:=h;simp[D.freeze,Vp cs vs aa]
 | .undef,_,h=>by simp[bu]at h
 | .own _,_,h=>by simp[bu]at h
 | .agg _,_,h=>by simp[bu]at h
 | .box _,_,h=>by simp[bu]at h
 | .map _,_,h=>by simp[bu]at h
 | .bld ..,_,h=>by simp[bu]at h
 | .bt _,_,h=>by simp[bu]at h
 | .alias ..,_,h=>by simp[bu]at h
 | .sub ..,_,h=>by simp[bu]at h
 | .place ..,_,h=>by simp[bu]at h
theorem Vp{M:Mem}:∀(cs:List D)(vs:List Value),c4 M cs vs->D.hA cs=some cs
 |[],_,_=>by simp[D.hA]
 |c::cs,vs,h=>by
  simp only[c4]at h;obtain⟨v,k9,_,I,aa⟩:=h;simp[D.hA,zR c v I,Vp cs k9 aa]
end
theorem Vn:∀{cs az:List D},D.hA cs=some az->az.length=cs.length
 |[],az,h=>by simp only[D.hA,aE]at h;subst h;rfl
 |c::cs,az,h=>by
  simp only[D.hA]at h
  split at h
  .rename_i c' b8 I aa;simp only[aE]at h;subst h;simp[Vn aa]
  .cases h
theorem HW:∀{es az:List (List D)},D.mB es=some az->az.map dR=es.map dR
 |[],az,h=>by simp only[D.mB,aE]at h;subst h;rfl
 |c::cs,az,h=>by
  simp only[D.mB]at h
  split at h
  .rename_i c' b8 I aa;simp only[aE]at h;subst h;simp[Vn I,HW aa]
  .cases h
theorem P2{es es':List (List D)}(h:es'.map dR=es.map dR){k:Nat}(aj:∀e∈es,e.length=k):∀e∈es',e.length=k:=by
 intro e he;have:e.length∈es'.map dR:=ba.2 ⟨e,he,rfl⟩;rw[h]at this;obtain⟨z,aG,iF⟩:=ba.1 this;rw[<-iF];exact aj z aG
mutual
theorem w5{M M':Mem}(bW:M.le M'):∀(t:T),t.tidy->T.wf M t->Has M' t.blocks->∀bf,t.erase.freeze=some bf->bu M' bf t.val
 | .leaf d v,al,hw,_,bf,h=>by
  rcases hw with⟨rfl,_⟩|hw
  .simp [T.erase,D.freeze]at h
  .simp only[T.erase,zR d v hw,aE]at h;subst h;exact bu.mono bW _ _ hw
 | .own g cap e sp es,al,hw,ag,bf,h=>by
  simp only[T.erase,D.freeze,aA]at h;obtain⟨es',h,rfl⟩:=h;obtain⟨⟨k,jJ,aj,kr⟩,w2,hp,oh,k_⟩:=hw;simp only[T.blocks]at ag;have cQ:=Vo bW es al k_ (λb mD=>ag b (fW _ mD)) es' h;have hl:=HW h;have hlen:es'.length=es.length:=by have:=congrArg dR hl;simpa using this
  simp only[bu,T.val];refine⟨_,_,_,rfl,hlen.symm,w2.1,by omega,.inr ⟨g,0,k,T.bH es,rfl,⟨_,e,_,ag _ cT,λj u hu=>?_⟩,jJ,?_,cQ⟩⟩
  .simp only[kH,gD];rw[ie (b3.1 hu).1];exact hu
  .refine P2 hl ?_;intro x U;rw[T.lU]at U;obtain⟨y,aw,rfl⟩:=ba.1 U;simpa using aj y aw
 | .nil,_,_,_,bf,h=>by
  simp only[T.erase,D.freeze,D.mB,aM,aE]at h;subst h;simp only[bu,T.val];exact⟨none,0,0,rfl,rfl,wF _,by simp[maxLen],.inl trivial⟩
 | .agg cs,_,hw,_,_,_=>by simp[T.wf]at hw
 | .box g e cs,al,hw,ag,bf,h=>by
  simp only[T.erase,D.freeze,aA]at h;obtain⟨b8,h,rfl⟩:=h;simp only[T.blocks]at ag;have cQ:=HV bW cs al hw (λb mD=>ag b (fW _ mD)) b8 h;simp only[bu,T.val];exact⟨g,0,T.bP cs,rfl,⟨_,e,_,ag _ cT,λj u hu=>by simpa using hu⟩,cQ⟩
 | .map r c es,_,_,_,bf,h=>by simp[T.erase,D.freeze]at h
 | .bld v0 m8 t0 gn iG,_,_,_,bf,h=>by simp[T.erase,D.freeze]at h
 | .bt az,_,hw,_,_,_=>by simp[T.wf]at hw
theorem HV{M M':Mem}(bW:M.le M'):∀(ts:List T),T.ho ts->T.ga M ts->Has M' (T.bq ts)->∀az,D.hA (T.g7 ts)=some az->c4 M' az (T.bP ts)
 |[],_,_,_,az,h=>by
  simp only[T.g7,D.hA,aE]at h;subst h;simp[c4,T.bP]
 |t::ts,al,hw,ag,az,h=>by
  simp only[T.g7,D.hA]at h
  split at h
  .rename_i c' b8 I aa;simp only[aE]at h;subst h;simp only[T.bq]at ag;simp only[c4,T.bP];exact⟨_,_,rfl,w5 bW t al.1 hw.1 ag.left c' I,HV bW ts al.2 hw.2 ag.right b8 aa⟩
  .cases h
theorem Vo{M M':Mem}(bW:M.le M'):∀(es:List (List T)),T.iv es->T.ha M es->Has M' (T.cO es)->∀az,D.mB (T.px es)=some az->fo M' az (T.bH es)
 |[],_,_,_,az,h=>by
  simp only[T.px,D.mB,aE]at h;subst h;simp[fo,T.bH]
 |t::ts,al,hw,ag,az,h=>by
  simp only[T.px,D.mB]at h
  split at h
  .rename_i c' b8 I aa;simp only[aE]at h;subst h;simp only[T.cO]at ag;simp only[fo,T.bH];exact⟨_,_,rfl,HV bW t al.1 hw.1 ag.left c' I,Vo bW ts al.2 hw.2 ag.right b8 aa⟩
  .cases h
end
def D.ji:D->Option (Nat×Path)
 | .alias s ps=>some (s,ps)
 | .sub s ps _ _=>some (s,ps)
 | .place s ps _ _=>some (s,ps)
 |_=>none
def D.c0:D->List (Nat×Path)
 | .agg cs=>cs.filterMap D.ji
 | .fn _ cs=>cs.filterMap D.ji
 |d=>d.ji.toList
section
variable{n:Nat}{R:Nat->Value}{M:Mem}{F aD:Fr}{G:bK}{H:dD}{a:Act}{w:World}
theorem UQ{M:Mem}{cs:List D}{g b:Nat}(h:bu M (.ref cs) (.pointer (some ⟨g,b,none⟩)))(o:Nat):bu M (.ref (cs.drop o)) (.pointer (some ⟨g,b+o,none⟩)):=by
 simp only[bu]at h⊢;obtain⟨fG,iA,vs,I,aa,aB⟩:=h;simp only[Value.pointer.injEq,aE,Addr.mk.injEq,and_true]at I;obtain⟨rfl,rfl⟩:=I;refine⟨g,b+o,vs.drop o,rfl,?_,aB.drop o⟩;have:=aa.part o (vs.drop o).length
 rwa [List.take_length]at this
theorem PJ(h:Inv n R M F G H a w){cL:Mem}(bW:M.le cL){d bf:D}{v:Value}(cq:aJ M G d v)(ae:fu F d=some bf)(ag:∀p,d.ji=some p->∀x,(bg G p.1).bw p.2=some x->Has cL x.blocks):bu cL bf v:=by
 cases d with
 |alias s ps=>
  obtain⟨x,U,ao,rfl⟩:=cq;simp only[fu,kW,h.b6,U,aM]at ae;exact w5 bW x (h.k5 U) (h.me U ao) (ag _ rfl x U) bf ae
 |sub s ps off len=>
  obtain⟨x,U,ao,cR⟩:=cq;have hf:=w5 bW x (h.k5 U) (h.me U ao) (ag _ rfl x U);simp only[fu,kW,h.b6,U,aM]at ae
  split at ae
  .rename_i es he
   split at ae
   .simp only[aE]at ae;subst ae;have hr:=hf _ he;refine Dg hr ?_;obtain⟨A,m,c,k,AQ,A',aT,a5,ez,eK,jk⟩:=cR;have hl:es.map dR=AQ.map dR:=by
     rcases a5 with a5|a5
     .rw [a5]at he;simp only[D.freeze,aA,D.sl.injEq]at he;obtain⟨ahl,he,rfl⟩:=he;exact HW he
     .rw [a5]at he;simp only[D.freeze,aE,D.sl.injEq]at he;rw[he]
    exact⟨A,m,c,k,es,A',aT,.inr rfl,by rw[<-ez];have:=congrArg dR hl;simpa using this,P2 hl eK,jk⟩
   .cases ae
  .cases ae
 |place s ps i o=>
  obtain⟨x,U,ao,fT⟩:=cq;have hf:=w5 bW x (h.k5 U) (h.me U ao) (ag _ rfl x U);simp only[fu,kW,h.b6,U,aM]at ae
  split at ae
  .rename_i es he;simp only[aA]at ae;obtain⟨cs,ad,rfl⟩:=ae;have hr:=hf _ he;obtain⟨g,b,cap,aT,a5⟩:=GH hr ad;rcases fT with⟨fG,MT,e',sp,es',k,rfl,hi,aj,rfl⟩|⟨fG,e',b8,rfl,rfl,rfl⟩
   .simp only[T.val,Value.slice.injEq,aE,Addr.mk.injEq,and_true]at aT;obtain⟨⟨rfl,rfl⟩,ez,rfl⟩:=aT;have yQ:cs.length=k:=by
     simp only[T.erase,D.freeze,aA,D.sl.injEq]at he;obtain⟨ahl,he,rfl⟩:=he;have hl:=HW he;refine P2 hl ?_ cs (mi ad);intro y aw;rw[T.lU]at aw;obtain⟨z,aG,rfl⟩:=ba.1 aw;simpa using aj z aG
    rw[yQ,kH]at a5;exact UQ a5 o
   .simp [T.erase,D.freeze]at he
  .rename_i cs he
   split at ae
   .rename_i aiX;simp only[aE]at ae;subst ae;subst aiX;have hr:=hf _ he;rcases fT with⟨fG,MT,e',sp,es',k,rfl,hi,aj,rfl⟩|⟨fG,e',b8,rfl,_,rfl⟩
    .simp [T.erase,D.freeze]at he
    .have:=UQ (o:=o) hr
     rwa [kH]at this
   .cases ae
  .cases ae
 |undef=>simp[fu,D.freeze]at ae
 |own=>simp[aJ,bu]at cq
 |box=>simp[aJ,bu]at cq
 |map=>simp[aJ,bu]at cq
 |bld=>simp[aJ,bu]at cq
 |agg=>simp[aJ,bu]at cq
 |bt=>simp[aJ,bu]at cq
 |lit x=>simp only[fu,D.freeze,aE]at ae;subst ae;exact bu.mono bW _ _ cq
 |sl x=>simp only[fu,zR (.sl x) v cq,aE]at ae;subst ae;exact bu.mono bW _ _ cq
 |ref x=>simp only[fu,zR (.ref x) v cq,aE]at ae;subst ae;exact bu.mono bW _ _ cq
 |fn f x=>simp only[fu,zR (.fn f x) v cq,aE]at ae;subst ae;exact bu.mono bW _ _ cq
theorem Xx{F:Fr}{cL:Mem}{bf:D}(ae:fu F (.own [])=some bf):bu cL bf (.slice none 0 0):=by
 simp only[fu,D.freeze,D.mB,aM,aE]at ae;subst ae;simp only[bu];exact⟨none,0,0,rfl,rfl,wF _,by simp[maxLen],.inl trivial⟩
theorem Xz(h:Inv n R M F G H a w){cL:Mem}(bW:M.le cL):∀{cs b8:List D}{vs:List Value},ff (j1 M G) cs vs->jR F cs=some b8->(∀p∈cs.filterMap D.ji,∀x,(bg G p.1).bw p.2=some x->Has cL x.blocks)->c4 cL b8 vs
 |_,_,_,.nil,ae,_=>by simp only[jR,aE]at ae;subst ae;simp[c4]
 |_,_,_,@ff.cons _ _ _ c v cs _ p q,ae,ag=>by
  simp only[jR]at ae
  split at ae
  .rename_i c' b8 I aa;simp only[aE]at ae;subst ae;simp only[c4];refine⟨_,_,rfl,?_,Xz h bW q aa λy aw=>ag y (by
    rw[cz]at aw⊢;obtain⟨z,aG,e⟩:=aw
    exact⟨z,by simp[aG],e⟩)⟩
   obtain⟨_,k|⟨rfl,rfl⟩⟩:=p
   .exact PJ h bW k I λy aw=>ag y (by rw[cz];exact⟨c,by simp,aw⟩)
   .exact Xx I
  .cases ae
theorem XA(h:Inv n R M F G H a w){cL:Mem}(bW:M.le cL):∀{cs b8:List D}{vs:List Value},ff (aJ M G) cs vs->jR F cs=some b8->(∀p∈cs.filterMap D.ji,∀x,(bg G p.1).bw p.2=some x->Has cL x.blocks)->c4 cL b8 vs
 |_,_,_,.nil,ae,_=>by simp only[jR,aE]at ae;subst ae;simp[c4]
 |_,_,_,@ff.cons _ _ _ c v cs _ p q,ae,ag=>by
  simp only[jR]at ae
  split at ae
  .rename_i c' b8 I aa;simp only[aE]at ae;subst ae;simp only[c4];refine⟨_,_,rfl,?_,XA h bW q aa λy aw=>ag y (by
    rw[cz]at aw⊢;obtain⟨z,aG,e⟩:=aw
    exact⟨z,by simp[aG],e⟩)⟩
   exact PJ h bW p I λy aw=>ag y (by rw[cz];exact⟨c,by simp,aw⟩)
  .cases ae
theorem alx(h:Inv n R M F G H a w){cL:Mem}(bW:M.le cL){d bf:D}{v:Value}(av:de M G d v)(ae:eV F d=some bf)(ag:∀p∈d.c0,∀x,(bg G p.1).bw p.2=some x->Has cL x.blocks):
  ∃t:T,t.erase=bf/\t.val=v/\t.tidy/\dV cL t/\t.blocks=[]:=by
 have leaf:∀DL,bu cL DL v->∃t:T,t.erase=DL/\t.val=v/\t.tidy/\dV cL t/\t.blocks=[]:=λDL k=>by
  refine⟨.leaf DL v,by simp[T.erase],by simp[T.val],?_,k,by simp[T.blocks]⟩;cases DL<;>simp_all [T.tidy,bu]
 have one:∀c,aJ M G c v->fu F c=some bf->(∀p,c.ji=some p->∀x,(bg G p.1).bw p.2=some x->Has cL x.blocks)->∃t:T,t.erase=bf/\t.val=v/\t.tidy/\dV cL t/\t.blocks=[]:=λc I aa aB=>leaf bf (PJ h bW I aa aB);cases d with
 |agg cs=>
  obtain⟨vs,rfl,aa⟩:=av;simp only[eV,aA]at ae;obtain⟨b8,ae,rfl⟩:=ae;have:=Xz h bW aa ae ag;obtain⟨ts,a2,bA,a3,a4,cj⟩:=xX this;have jI:T.bq ts=[]:=by rw[T.sW,tR];exact cj
  exact⟨.agg ts,by simp[T.erase,T.hz,a2],by simp[T.val,bA],a3,a4,by simp[T.blocks,jI]⟩
 |fn f cs=>
  obtain⟨vs,rfl,aa⟩:=av;simp only[eV,aA]at ae;obtain⟨b8,ae,rfl⟩:=ae;have:=XA h bW aa ae ag;exact leaf _ (by simp only[bu];exact⟨vs,rfl,this⟩)
 |own es=>
  cases es with
  |nil=>simp only[de]at av;subst av;exact leaf _ (Xx (F:=F) ae)
  |cons=>simp[de,fm,aJ,bu]at av
 |lit x=>exact one (.lit x) av ae (λp af=>by cases af)
 |sl x=>exact one (.sl x) av ae (λp af=>by cases af)
 |ref x=>exact one (.ref x) av ae (λp af=>by cases af)
 |undef=>simp[eV,fu,D.freeze]at ae
 |box=>simp[de,fm,aJ,bu]at av
 |map=>simp[de,fm,aJ,bu]at av
 |bld=>simp[de,fm,aJ,bu]at av
 |bt=>simp[de,fm,aJ,bu]at av
 |alias s ps=>exact one (.alias s ps) av ae (λp af=>by cases af;exact ag (s,ps) (by simp[D.c0,D.ji]))
 |sub s ps i k=>exact one (.sub s ps i k) av ae (λp af=>by cases af;exact ag (s,ps) (by simp[D.c0,D.ji]))
 |place s ps i k=>exact one (.place s ps i k) av ae (λp af=>by cases af;exact ag (s,ps) (by simp[D.c0,D.ji]))
end
theorem D.uU{d bf:D}{i:Nat}{cs b8:List D}(h:d.elem i=some cs)(da:d.df i b8=some bf)(k:Nat):bf.elem k=if k=i then some b8 else d.elem k:=by
 cases d with
 |own es=>
  simp only[D.df,aE]at da;subst da;simp only[D.elem]at h⊢;obtain⟨hi,_⟩:=b3.1 h;rw[XO];by_cases aj:i=k
  .subst aj;simp[hi]
  .simp [aj,Ne.symm aj]
 |agg qz=>cases i with
  |zero=>simp only[D.df,aE]at da;subst da;cases k<;>simp[D.elem]
  |succ i=>simp[D.elem]at h
 |box qz=>cases i with
  |zero=>simp only[D.df,aE]at da;subst da;cases k<;>simp[D.elem]
  |succ i=>simp[D.elem]at h
 |bt qz=>cases i with
  |zero=>simp only[D.df,aE]at da;subst da;cases k<;>simp[D.elem]
  |succ i=>simp[D.elem]at h
 |_=>simp[D.elem]at h
def mr(p q:Path):Prop:=pre p q=false/\pre q p=false
theorem D.yH:∀(ps:Path){d bf x:D},d.cy ps x=some bf->∀p,mr ps p->bf.bw p=d.bw p
 |[],d,bf,x,_,p,af=>by simp[mr,pre]at af
 |(i,o)::ps,d,bf,x,ae,p,af=>by
  simp only[D.cy]at ae;cases hi:d.elem i with
  |none=>simp[hi]at ae
  |some cs=>
   simp only[hi]at ae;cases an:cs[o]? with
   |none=>simp[an]at ae
   |some c=>
    simp only[an]at ae;cases ad:c.cy ps x with
    |none=>simp[ad]at ae
    |some c'=>
     simp only[ad]at ae;have Ef:=D.uU hi ae;cases p with
     |nil=>simp[mr,pre]at af
     |cons q p=>
      obtain⟨k,m⟩:=q;simp only[D.bw];rw[Ef k];by_cases aj:k=i
      .subst aj;simp only[if_true,hi];by_cases hm:m=o
       .subst hm;have e8:m<cs.length:=(b3.1 an).1;simp only[hQ e8,an];exact D.yH ps ad p (by simpa[mr,pre]using af)
       .rw [X6 (Ne.symm hm)]
      .simp only[aj,if_false]
theorem D.Vu:∀(ps:Path){d bf x:D},d.cy ps x=some bf->∀r,bf.bw (ps++r)=x.bw r
 |[],d,bf,x,ae,r=>by simp only[D.cy,aE]at ae;subst ae;rfl
 |(i,o)::ps,d,bf,x,ae,r=>by
  simp only[D.cy]at ae;cases hi:d.elem i with
  |none=>simp[hi]at ae
  |some cs=>
   simp only[hi]at ae;cases an:cs[o]? with
   |none=>simp[an]at ae
   |some c=>
    simp only[an]at ae;cases ad:c.cy ps x with
    |none=>simp[ad]at ae
    |some c'=>
     simp only[ad]at ae;have e8:o<cs.length:=(b3.1 an).1;simp only[lI,D.bw,D.uU hi ae i,if_true,hQ e8];exact D.Vu ps ad r
theorem ahx{cs:List D}{o:Nat}{c:D}(an:o<cs.length)(ad:c.freeze=none):D.hA (cs.set o c)=none:=by
 induction cs generalizing o with
 |nil=>simp at an
 |cons x cs aN=>
  cases o with
  |zero=>simp[D.hA,ad]
  |succ o=>
   simp only[Cj,D.hA,aN (by simpa using an)];cases x.freeze<;>rfl
theorem ahy{es:List (List D)}{i:Nat}{e:List D}(hi:i<es.length)(he:D.hA e=none):D.mB (es.set i e)=none:=by
 induction es generalizing i with
 |nil=>simp at hi
 |cons x es aN=>
  cases i with
  |zero=>simp[D.mB,he]
  |succ i=>
   simp only[Cj,D.mB,aN (by simpa using hi)];cases D.hA x<;>rfl
theorem Vq:∀(ps:Path){d bf:D},d.cy ps .undef=some bf->bf.freeze=none
 |[],d,bf,ae=>by simp only[D.cy,aE]at ae;subst ae;rfl
 |(i,o)::ps,d,bf,ae=>by
  simp only[D.cy]at ae;cases hi:d.elem i with
  |none=>simp[hi]at ae
  |some cs=>
   simp only[hi]at ae;cases an:cs[o]? with
   |none=>simp[an]at ae
   |some c=>
    simp only[an]at ae;cases ad:c.cy ps .undef with
    |none=>simp[ad]at ae
    |some c'=>
     simp only[ad]at ae;have e8:o<cs.length:=(b3.1 an).1;have hf:=ahx e8 (Vq ps ad);cases d with
     |own es=>
      simp only[D.df,aE]at ae;subst ae;simp only[D.elem]at hi;have:=ahy (b3.1 hi).1 hf;simp[D.freeze,this]
     |agg qz=>cases i<;>simp[D.df,D.elem]at ae hi;subst ae;simp[D.freeze,hf]
     |box qz=>cases i<;>simp[D.df,D.elem]at ae hi;subst ae;simp[D.freeze,hf]
     |bt qz=>cases i<;>simp[D.df,D.elem]at ae hi;subst ae;simp[D.freeze]
     |_=>simp[D.elem]at hi
theorem D.DW:∀(p q:Path){d bf x:D},d.cy (p++q) x=some bf->∃y fw,d.bw p=some y/\bf.bw p=some fw/\y.cy q x=some fw
 |[],q,d,bf,x,ae=>⟨d,bf,rfl,rfl,ae⟩
 |(i,o)::p,q,d,bf,x,ae=>by
  simp only[lI,D.cy]at ae;cases hi:d.elem i with
  |none=>simp[hi]at ae
  |some cs=>
   simp only[hi]at ae;cases an:cs[o]? with
   |none=>simp[an]at ae
   |some c=>
    simp only[an]at ae;cases ad:c.cy (p++q) x with
    |none=>simp[ad]at ae
    |some c'=>
     simp only[ad]at ae;have e8:o<cs.length:=(b3.1 an).1;obtain⟨y,fw,I,aa,aB⟩:=D.DW p q ad;refine⟨y,fw,by simp[D.bw,hi,an,I],?_,aB⟩;simp only[D.bw,D.uU hi ae i,if_true,hQ e8,aa]
theorem H0(F:Fr)(s:Nat)(d:D):get (cf F s d) s=d:=by
 induction F with
 |nil=>simp[cf,get]
 |cons x r aN=>
  simp only[cf]
  split
  .simp [get]
  .rename_i h;simp[get,h,aN]
theorem Vv(F:Fr){s bk:Nat}(d:D)(h:bk≠s):get (cf F s d) bk=get F bk:=by
 induction F with
 |nil=>simp[cf,get,Ne.symm h]
 |cons x r aN=>
  simp only[cf]
  split
  .rename_i aj;subst aj;simp[get,Ne.symm h]
  .simp only[get];split<;>simp_all
theorem Nb{F bN:Fr}{s:Nat}{ps:Path}(aU:setAt F s ps .undef=some bN){bk:Nat}{p:Path}{d:D}(hf:kW bN bk p=some d):kW F bk p=some d/\(bk=s->mr ps p):=by
 simp only[setAt,aA]at aU;obtain⟨d2,xc,rfl⟩:=aU;by_cases ae:bk=s
 .subst ae;simp only[kW,b6,H0]at hf⊢;by_cases af:pre ps p=true
  .obtain ⟨r,rfl⟩:=(wj ps p).1 af;rw[D.Vu ps xc r]at hf;cases r with
   |nil=>simp[D.bw,D.freeze]at hf
   |cons q r=>obtain⟨i,o⟩:=q;simp[D.bw,D.elem]at hf
  .by_cases mF:pre p ps=true
   .obtain ⟨r,rfl⟩:=(wj p ps).1 mF;obtain⟨y,fw,I,aa,aB⟩:=D.DW p r xc;rw[aa]at hf;simp only[Vq r aB]at hf;cases hf
   .have lZ:mr ps p:=⟨by simpa using af,by simpa using mF⟩
    rw[D.yH ps xc p lZ]at hf;exact⟨hf,λ_=>lZ⟩
 .simp only[kW,b6,Vv F d2 ae]at hf⊢;exact⟨hf,λh=>absurd h ae⟩
theorem Xw{F bN:Fr}{s:Nat}{ps:Path}(aU:setAt F s ps .undef=some bN){d bf:D}(ae:fu bN d=some bf):fu F d=some bf/\∀p,d.ji=some p->p.1=s->mr ps p.2:=by
 cases d with
 |alias bk p=>
  simp only[fu]at ae⊢;obtain⟨I,aa⟩:=Nb aU ae;exact⟨I,λq au=>by cases au;exact aa⟩
 |sub bk p off len=>
  simp only[fu]at ae⊢;cases hf:kW bN bk p with
  |none=>simp[hf]at ae
  |some x=>
   obtain⟨I,aa⟩:=Nb aU hf;rw[hf]at ae;rw[I];exact⟨ae,λq au=>by cases au;exact aa⟩
 |place bk p i o=>
  simp only[fu]at ae⊢;cases hf:kW bN bk p with
  |none=>simp[hf]at ae
  |some x=>
   obtain⟨I,aa⟩:=Nb aU hf;rw[hf]at ae;rw[I];exact⟨ae,λq au=>by cases au;exact aa⟩
 |_=>exact⟨ae,λq au=>by cases au⟩
theorem PK{F bN:Fr}{s:Nat}{ps:Path}(aU:setAt F s ps .undef=some bN):∀{cs b8:List D},jR bN cs=some b8->jR F cs=some b8/\∀p∈cs.filterMap D.ji,p.1=s->mr ps p.2
 |[],b8,ae=>⟨ae,by simp⟩
 |c::cs,b8,ae=>by
  simp only[jR]at ae⊢
  split at ae
  .rename_i c' al8 I aa;obtain⟨b9,k2⟩:=Xw aU I;obtain⟨gY,nn⟩:=PK aU aa;rw[b9,gY];refine⟨ae,λp af=>?_⟩;rw[cz]at af;obtain⟨z,aG,e⟩:=af;rcases c_.1 aG with rfl|aG
   .exact k2 p e
   .exact nn p (by rw[cz];exact⟨z,aG,e⟩)
  .cases ae
theorem Xy{F bN:Fr}{s:Nat}{ps:Path}(aU:setAt F s ps .undef=some bN){d bf:D}(ae:eV bN d=some bf):eV F d=some bf/\∀p∈d.c0,p.1=s->mr ps p.2:=by
 have one:∀c,eV bN c=fu bN c->eV F c=fu F c->c.c0=c.ji.toList->eV bN c=some bf->eV F c=some bf/\∀p∈c.c0,p.1=s->mr ps p.2:=λc aT a5 ez h=>by
  rw[aT]at h;rw[a5,ez];obtain⟨b9,k2⟩:=Xw aU h;exact⟨b9,λp af=>k2 p (by simpa using af)⟩
 cases d with
 |agg cs=>
  simp only[eV,aA]at ae⊢;obtain⟨b8,I,aa⟩:=ae;obtain⟨b9,k2⟩:=PK aU I;exact⟨⟨b8,b9,aa⟩,k2⟩
 |fn f cs=>
  simp only[eV,aA]at ae⊢;obtain⟨b8,I,aa⟩:=ae;obtain⟨b9,k2⟩:=PK aU I;exact⟨⟨b8,b9,aa⟩,k2⟩
 |_=>exact one _ rfl rfl rfl ae
end Go.aS
namespace Go.aS
open D
namespace T
theorem yH:∀(ps:Path){d bf x:T},d.cy ps x=some bf->∀p,mr ps p->bf.bw p=d.bw p
 |[],d,bf,x,_,p,af=>by simp[mr,pre]at af
 |(i,o)::ps,d,bf,x,ae,p,af=>by
  simp only[cy]at ae;cases hi:d.elem i with
  |none=>simp[hi]at ae
  |some cs=>
   simp only[hi]at ae;cases an:cs[o]? with
   |none=>simp[an]at ae
   |some c=>
    simp only[an]at ae;cases ad:c.cy ps x with
    |none=>simp[ad]at ae
    |some c'=>
     simp only[ad]at ae;have Ef:=uU hi ae;cases p with
     |nil=>simp[mr,pre]at af
     |cons q p=>
      obtain⟨k,m⟩:=q;simp only[bw];rw[Ef k];by_cases aj:k=i
      .subst aj;simp only[if_true,hi];by_cases hm:m=o
       .subst hm;have e8:m<cs.length:=(b3.1 an).1;simp only[hQ e8,an];exact yH ps ad p (by simpa[mr,pre]using af)
       .rw [X6 (Ne.symm hm)]
      .simp only[aj,if_false]
theorem DW:∀(p q:Path){d bf x:T},d.cy (p++q) x=some bf->∃y fw,d.bw p=some y/\bf.bw p=some fw/\y.cy q x=some fw
 |[],q,d,bf,x,ae=>⟨d,bf,rfl,rfl,ae⟩
 |(i,o)::p,q,d,bf,x,ae=>by
  simp only[lI,cy]at ae;cases hi:d.elem i with
  |none=>simp[hi]at ae
  |some cs=>
   simp only[hi]at ae;cases an:cs[o]? with
   |none=>simp[an]at ae
   |some c=>
    simp only[an]at ae;cases ad:c.cy (p++q) x with
    |none=>simp[ad]at ae
    |some c'=>
     simp only[ad]at ae;have e8:o<cs.length:=(b3.1 an).1;obtain⟨y,fw,I,aa,aB⟩:=DW p q ad;refine⟨y,fw,by simp[bw,hi,an,I],?_,aB⟩;simp only[bw,uU hi ae i,if_true,hQ e8,aa]
theorem ahK(dead:Bool->Nat->Path->Bool){t x':T}{p:Path}(h:(dN dead t).bw p=some x'):∃x,t.bw p=some x/\x'.blocks=x.blocks:=by
 cases t with
 |leaf d v=>
  simp only[dN]at h;obtain⟨rfl,rfl⟩:=ua h;exact⟨_,rfl,by simp[blocks]⟩
 |agg cs=>
  cases p with
  |nil=>simp only[bw,aE]at h;subst h;exact⟨_,rfl,U7 dead (.agg cs)⟩
  |cons q p=>
   obtain⟨i,o⟩:=q;cases i with
   |succ i=>simp[dN,bw,elem]at h
   |zero=>
    simp only[dN,bw,elem,hb]at h⊢;cases an:cs[o]? with
    |none=>simp[an]at h
    |some c=>
     simp only[an,aM]at h⊢;cases c with
     |leaf d v=>
      simp only[dj]at h;obtain⟨rfl,rfl⟩:=ua h;exact⟨_,rfl,by simp[blocks]⟩
     |_=>exact⟨x',h,rfl⟩
 |_=>exact⟨x',h,rfl⟩
end T
def Mem.jS(M:Mem)(K:List Nat)(w:World):Mem:=λg=>if g∈K then w.heap[g]? else M g
def Mem.minus(M:Mem)(K:List Nat):Mem:=λg=>if g∈K then none else M g
theorem Mem.EU{M:Mem}{w:World}{B:dD}(h:dT M w B){K:List Nat}(dA:∀g∈K,g∈keys B):M.le (M.jS K w):=λg o ak=>by
 simp only[Mem.jS];rw[if_neg]
 .exact ak
 .intro aj;obtain⟨b,ag,rfl⟩:=ba.1 (dA g aj);rw[h.apart b ag]at ak;cases ak
theorem fE.jS{M:Mem}{w:World}(h:fE M w)(K:List Nat):fE (M.jS K w) w:=λg o ak=>by
 simp only[Mem.jS]at ak
 split at ak
 .exact ak
 .exact h g o ak
theorem dT.has{M:Mem}{w:World}{B:dD}(h:dT M w B){B':dD}(cg:∀b∈B',b∈B):Has (M.jS (keys B') w) B':=λb ag=>by
 simp only[Mem.jS];have aj:b.1∈keys B':=ba.2 ⟨b,ag,rfl⟩;rw[if_pos aj];exact h.heap b (cg b ag)
theorem dT.jS{M:Mem}{w:World}{A B:dD}(h:dT M w (A++B)):dT (M.jS (keys B) w) w A where
 nodup:=h.left.nodup
 heap:=h.left.heap
 apart x U:=by
  simp only[Mem.jS];rw[if_neg]
  .exact h.left.apart x U
  .intro aj;have:=h.nodup;rw[aQ,gC]at this;exact this.2.2 x.1 (ba.2 ⟨x,U,rfl⟩) x.1 aj rfl
def wk(G bS:bK)(M':Mem):Prop:=∀s p x',(bg bS s).bw p=some x'->∃x,(bg G s).bw p=some x/\∀b∈x.blocks,b∈x'.blocks∨M' b.1=some b.2
theorem wk.refl(G:bK)(M:Mem):wk G G M:=λ_ _ x' h=>⟨x',h,λ_ ag=>.inl ag⟩
theorem wk.trans{G bQ cr:bK}{b1 M2:Mem}(h:wk G bQ b1)(k:wk bQ cr M2)(bW:b1.le M2):wk G cr M2:=λs p x' U=>by
 obtain⟨y,aw,I⟩:=k s p x' U;obtain⟨z,aG,aa⟩:=h s p y aw;refine⟨z,aG,λb ag=>?_⟩;rcases aa b ag with aB|aB
 .exact I b aB
 .exact .inr (bW _ _ aB)
def yf(G bS:bK)(L:List (Nat×Path)):Prop:=∀s p x,(bg G s).bw p=some x->x.node=true->(∀q∈L,q.1=s->mr q.2 p)->(bg bS s).bw p=some x
section
variable{n:Nat}{R:Nat->Value}{M:Mem}{F aD:Fr}{G:bK}{H:dD}{a:Act}{w:World}
structure mu(M:Mem)(G:bK)(w:World)(M':Mem)(bS:bK):Prop where
 le:M.le M'
 new:∀g o,M' g=some o->M g=some o∨g∈keys (a8 G)
 sub:∀g∈keys (a8 bS),g∈keys (a8 G)
 yy:wk G bS M'
theorem mu.refl(M:Mem)(G:bK)(w:World):mu M G w M G:=⟨Mem.le_refl M,λ_ _ h=>.inl h,λ_ h=>h,wk.refl G M⟩
theorem mu.trans{b1 M2:Mem}{bQ cr:bK}(h:mu M G w b1 bQ)(k:mu b1 bQ w M2 cr):mu M G w M2 cr:=
 ⟨Mem.le_trans h.le k.le,λg o ak=>(k.new g o ak).elim (h.new g o) (λaU=>.inr (h.sub g aU)),λg ak=>h.sub g (k.sub g ak),h.yy.trans k.yy k.le⟩
theorem Zs{x:T}(al:x.tidy)(h:x.erase.dC=true):x.node=true:=by
 cases x with
 |leaf d v=>cases d<;>simp_all [T.tidy,T.erase,D.dC]
 |agg=>simp[T.erase,D.dC]at h
 |bt=>simp[T.erase,D.dC]at h
 |_=>rfl
theorem Lc(h:Inv n R M F G H a w){s:Nat}{ps:Path}(hf:kX F s ps=some aD):
  ∃M' bS,Inv n R M' aD bS H a w/\mu M G w M' bS/\(∃x,(bg G s).bw ps=some x/\Has M' x.blocks)/\yf G bS [(s,ps)]:=by
 simp only[kX,h.b6]at hf;cases U:(bg G s).bw ps with
 |none=>simp[U]at hf
 |some x=>
  simp only[U,aM]at hf;have r4:=h.k5 U
  split at hf
  .rename_i hex;have ao:=Zs r4 hex;have zg:=h.me U ao;cases qJ:x.erase.freeze with
   |none=>simp[qJ]at hf
   |some c'=>
    simp only[qJ]at hf;obtain⟨r,dk,ea⟩:=qd U;obtain⟨bz,b_,cM,fI⟩:=ea (.leaf c' x.val) rfl;have ia:∀b∈x.blocks,b∈a8 G:=λb ag=>dk.mem_iff.1 (by simp[ag])
    let M':Mem:=M.jS (keys x.blocks) w
    have bW:M.le M':=Mem.EU h.bd.left (λg ak=>by
     obtain⟨b,ag,rfl⟩:=ba.1 ak
     exact ba.2 ⟨b,ia b ag,rfl⟩)
    have pD:Has M' x.blocks:=h.bd.left.has ia;have IB:bu M' c' x.val:=w5 bW x r4 zg pD c' qJ;have fZ:((a8 (dS G s bz)++H)++x.blocks).Perm (a8 G++H):=by
     refine dn ?_ (dk.append_right H);refine((fI.symm.append_right H).append_right _).trans ?_;simp only[T.blocks,P5];refine List.perm_append_comm.trans ?_;simp
    have dI:dT M' w (a8 (dS G s bz)++H):=(h.bd.perm fZ.symm).jS;have Bj:(T.leaf c' x.val).tidy:=by cases c'<;>simp_all [T.tidy,bu]
    have aj:=Gv (x':=.leaf c' x.val) U b_ (λ_=>by
     refine⟨?_,rfl⟩;have:x.erase.freeze=some c':=qJ;cases x with
     |leaf d v=>simp only[T.erase]at hex;cases d<;>simp_all [T.tidy,D.dC]
     |own g cap e sp es=>simp only[T.erase,D.freeze,aA]at this;obtain⟨_,_,rfl⟩:=this;rfl
     |nil=>simp only[T.erase,D.freeze,aA]at this;obtain⟨_,_,rfl⟩:=this;rfl
     |box g e cs=>simp only[T.erase,D.freeze,aA]at this;obtain⟨_,_,rfl⟩:=this;rfl
     |map=>simp[T.erase,D.freeze]at this
     |bld=>simp[T.erase,D.freeze]at this
     |agg=>simp[T.node]at ao
     |bt=>simp[T.node]at ao)
    obtain⟨aX,b9,k2⟩:=h.path bW b_ cM (j7 s ps) aj Bj (.inr IB) (p5 U ao) dI (h.mem.jS _);simp only[T.erase]at b9;rw[b9]at hf;simp only[aM,aE]at hf;subst hf;refine⟨M',_,k2,⟨bW,λg o ak=>?_,λg ak=>?_,?_⟩,⟨x,rfl,pD⟩,?_⟩
    .simp only[M',Mem.jS]at ak
     split at ak
     .rename_i te;obtain⟨b,ag,rfl⟩:=ba.1 te;exact .inr (ba.2 ⟨b,ia b ag,rfl⟩)
     .exact .inl ak
    .rw [p4]at ak;have I:g∈(a8 (dS G s bz)++x.blocks).map cA:=by rw[aQ];exact iZ _ ak
     have aa:((a8 (dS G s bz))++x.blocks).Perm (a8 G):=by
      refine dn ?_ dk;refine(fI.symm.append_right _).trans ?_;simp only[T.blocks,P5];exact cu
     exact(aa.map cA).mem_iff.1 I
    .intro bk p x' gJ;rw[Kk]at gJ;obtain⟨ai,ib,kY⟩:=T.ahK _ gJ;rw[kY];by_cases ae:bk=s
     .subst ae;rw[vP]at ib;by_cases af:pre ps p=true
      .obtain ⟨k7,rfl⟩:=(wj ps p).1 af;rw[T.DX ps U b_ k7]at ib;obtain⟨rfl,rfl⟩:=ua ib;refine⟨x,by simpa using U,λb ag=>.inr (pD b ag)⟩
      .by_cases mF:pre p ps=true
       .obtain ⟨q,rfl⟩:=(wj p ps).1 mF;obtain⟨y,fw,aT,a5,ez⟩:=T.DW p q b_;rw[a5]at ib;cases ib;refine⟨y,aT,λb ag=>?_⟩;have akj:y.bw q=some x:=by rw[<-T.DV p aT];exact U
        obtain⟨Cb,f1,f2⟩:=T.focus q akj;obtain⟨amN,c5,_,h9⟩:=f2 (.leaf c' x.val) rfl;rw[ez]at c5;cases c5;rcases a6.1 (f1.mem_iff.2 ag)with ag|ag
        .exact .inr (pD b ag)
        .exact .inl (h9.mem_iff.1 (by simp[ag]))
       .have:=T.yH ps b_ p ⟨by simpa using af,by simpa using mF⟩;rw[this]at ib;exact⟨ai,ib,λb ag=>.inl ag⟩
     .rw [sx G bz ae]at ib;exact⟨ai,ib,λb ag=>.inl ag⟩
    .intro bk p y aw fU lZ;rw[Kk];refine T.Nc _ ?_ fU;by_cases ae:bk=s
     .subst ae;rw[vP,T.yH ps b_ p (lZ (bk,ps) (by simp) rfl)];exact aw
     .rw [sx G bz ae];exact aw
  .split at hf
   .rename_i N6 pH;simp only[aE]at hf;subst hf;refine⟨M,G,h,mu.refl M G w,⟨x,rfl,?_⟩,λbk p y aw _ _=>aw⟩;have:∃d v,x=.leaf d v:=by
     cases x with
     |leaf d v=>exact⟨d,v,rfl⟩
     |agg=>simp[T.erase,D.node1]at pH
     |bt=>simp[T.erase,D.node1]at pH
     |_=>simp[T.erase,D.dC]at N6
    obtain⟨d,v,rfl⟩:=this;intro b ag;simp[T.blocks]at ag
   .cases hf
theorem GO(h:Inv n R M F G H a w){d:D}(hf:mC F d=some aD):
  ∃M' bS,Inv n R M' aD bS H a w/\mu M G w M' bS/\(∀p,d.ji=some p->∃x,(bg G p.1).bw p.2=some x/\Has M' x.blocks)/\yf G bS d.ji.toList:=by
 have none:some F=some aD->d.ji=Option.none->∃M' bS,Inv n R M' aD bS H a w/\mu M G w M' bS/\(∀p,d.ji=some p->∃x,(bg G p.1).bw p.2=some x/\Has M' x.blocks)/\yf G bS d.ji.toList:=λaT a5=>by
  cases aT;exact⟨M,G,h,mu.refl M G w,λp af=>(by rw[a5]at af;cases af),λbk p y aw _ _=>aw⟩
 cases d with
 |alias s ps=>
  obtain⟨M',bS,I,aa,aB,aW⟩:=Lc h hf;exact⟨M',bS,I,aa,λp af=>by cases af;exact aB,aW⟩
 |sub s ps i k=>
  obtain⟨M',bS,I,aa,aB,aW⟩:=Lc h hf;exact⟨M',bS,I,aa,λp af=>by cases af;exact aB,aW⟩
 |place s ps i o=>simp[mC]at hf
 |_=>exact none hf rfl
theorem LK:∀{az:List D}{M:Mem}{F aD:Fr}{G:bK},Inv n R M F G H a w->qD F az=some aD ->
  ∃M' bS,Inv n R M' aD bS H a w/\mu M G w M' bS/\(∀p∈az.filterMap D.ji,∀x,(bg G p.1).bw p.2=some x->Has M' x.blocks)/\yf G bS (az.filterMap D.ji)
 |[],M,F,aD,G,h,hf=>by
  simp only[qD,aE]at hf;subst hf;exact⟨M,G,h,mu.refl M G w,by simp,λbk p y aw _ _=>aw⟩
 |d::az,M,F,aD,G,h,hf=>by
  simp only[qD]at hf;cases I:mC F d with
  |none=>simp[I]at hf
  |some aX=>
   simp only[I]at hf;obtain⟨b1,bQ,a2,bA,a3,a4⟩:=GO h I;obtain⟨M2,cr,cb,cK,cS,dh⟩:=LK a2 hf;refine⟨M2,cr,cb,bA.trans cK,λp af x U=>?_,λbk p y aw ao lZ=>?_⟩
   .rw [cz]at af;obtain⟨z,aG,e⟩:=af;rcases c_.1 aG with rfl|aG
    .obtain ⟨x',gJ,aU⟩:=a3 p e;rw[U]at gJ;cases gJ;exact aU.mono cK.le
    ·
     have hm:p∈az.filterMap D.ji:=by rw[cz];exact⟨z,aG,e⟩
     by_cases hex:∃x',(bg bQ p.1).bw p.2=some x'
     .obtain ⟨x',gJ⟩:=hex;obtain⟨ax,l8,ad⟩:=bA.yy p.1 p.2 x' gJ;rw[U]at l8;cases l8;have aU:=cS p hm x' gJ;intro b ag;rcases ad b ag with ad|ad
      .exact aU b ad
      .exact cK.le _ _ ad
     .exfalso;have:∀{az:List D}{M:Mem}{F:Fr}{G:bK},Inv n R M F G H a w->qD F az=some aD->∀p∈az.filterMap D.ji,∃x',(bg G p.1).bw p.2=some x':=by
       intro az
       induction az with
       |nil=>intro _ _ _ _ _ p af;simp at af
       |cons d az aN=>
        intro M F G h hf p af;simp only[qD]at hf;cases I:mC F d with
        |none=>simp[I]at hf
        |some aX=>
         simp only[I]at hf;obtain⟨b1,bQ,a2,bA,a3,a4⟩:=GO h I;rw[cz]at af;obtain⟨z,aG,e⟩:=af;rcases c_.1 aG with rfl|aG
         .obtain ⟨x',gJ,_⟩:=a3 p e;exact⟨x',gJ⟩
         .obtain ⟨x',gJ⟩:=aN a2 hf p (by rw[cz];exact⟨z,aG,e⟩);obtain⟨ax,l8,_⟩:=bA.yy p.1 p.2 x' gJ;exact⟨ax,l8⟩
      exact hex (this a2 hf p hm)
   .refine dh bk p y (a4 bk p y aw ao λq au=>lZ q ?_) ao λq au=>lZ q ?_
    .rw [cz];exact⟨d,by simp,by simpa using au⟩
    .rw [cz]at au⊢;obtain⟨z,aG,e⟩:=au;exact⟨z,by simp[aG],e⟩
theorem adk(h:Inv n R M F G H a w){d:D}(hf:uW F d=some aD):
  ∃M' bS,Inv n R M' aD bS H a w/\mu M G w M' bS/\(∀p∈d.c0,∃x,(bg G p.1).bw p.2=some x)/\(∀p∈d.c0,∀x,(bg G p.1).bw p.2=some x->Has M' x.blocks)/\yf G bS d.c0:=by
 have there:∀{az:List D}{M:Mem}{F:Fr}{G:bK},Inv n R M F G H a w->qD F az=some aD->∀p∈az.filterMap D.ji,∃x',(bg G p.1).bw p.2=some x':=by
  intro az
  induction az with
  |nil=>intro _ _ _ _ _ p af;simp at af
  |cons d az aN=>
   intro M F G h hf p af;simp only[qD]at hf;cases I:mC F d with
   |none=>simp[I]at hf
   |some aX=>
    simp only[I]at hf;obtain⟨b1,bQ,a2,bA,a3,a4⟩:=GO h I;rw[cz]at af;obtain⟨z,aG,e⟩:=af;rcases c_.1 aG with rfl|aG
    .obtain ⟨x',gJ,_⟩:=a3 p e;exact⟨x',gJ⟩
    .obtain ⟨x',gJ⟩:=aN a2 hf p (by rw[cz];exact⟨z,aG,e⟩);obtain⟨ax,l8,_⟩:=bA.yy p.1 p.2 x' gJ;exact⟨ax,l8⟩
 have one:∀c:D,mC F c=some aD->c.c0=c.ji.toList->∃M' bS,Inv n R M' aD bS H a w/\mu M G w M' bS/\(∀p∈c.c0,∃x,(bg G p.1).bw p.2=some x)/\(∀p∈c.c0,∀x,(bg G p.1).bw p.2=some x->Has M' x.blocks)/\yf G bS c.c0:=λc I aa=>by
  obtain⟨b1,bQ,a2,bA,a3,a4⟩:=GO h I;rw[aa];refine⟨b1,bQ,a2,bA,λp af=>?_,λp af x U=>?_,a4⟩
  .obtain ⟨x',gJ,_⟩:=a3 p (by simpa using af);exact⟨x',gJ⟩
  .obtain ⟨x',gJ,aU⟩:=a3 p (by simpa using af);rw[U]at gJ;cases gJ;exact aU
 cases d with
 |agg cs=>
  obtain⟨b1,bQ,a2,bA,a3,a4⟩:=LK h hf;exact⟨b1,bQ,a2,bA,there h hf,a3,a4⟩
 |fn f cs=>
  obtain⟨b1,bQ,a2,bA,a3,a4⟩:=LK h hf;exact⟨b1,bQ,a2,bA,there h hf,a3,a4⟩
 |_=>exact one _ hf rfl
theorem Sk:∀{az:List D}{M:Mem}{F aD:Fr}{G:bK},Inv n R M F G H a w->lp F az=some aD ->
  ∃M' bS,Inv n R M' aD bS H a w/\mu M G w M' bS/\(∀d∈az,∀p∈d.c0,∃x,(bg G p.1).bw p.2=some x)/\(∀d∈az,∀p∈d.c0,∀x,(bg G p.1).bw p.2=some x->Has M' x.blocks)/\yf G bS (az.flatMap D.c0)
 |[],M,F,aD,G,h,hf=>by
  simp only[lp,aE]at hf;subst hf;exact⟨M,G,h,mu.refl M G w,by simp,by simp,λbk p y aw _ _=>aw⟩
 |d::az,M,F,aD,G,h,hf=>by
  simp only[lp]at hf;cases I:uW F d with
  |none=>simp[I]at hf
  |some aX=>
   simp only[I]at hf;obtain⟨b1,bQ,a2,bA,a0,a3,a4⟩:=adk h I;obtain⟨M2,cr,cb,cK,km,cS,dh⟩:=Sk a2 hf;refine⟨M2,cr,cb,bA.trans cK,λe he p af=>?_,λe he p af x U=>?_,λbk p y aw ao lZ=>?_⟩
   .rcases c_.1 he with rfl|he
    .exact a0 p af
    .obtain ⟨x',gJ⟩:=km e he p af;obtain⟨ax,l8,_⟩:=bA.yy p.1 p.2 x' gJ;exact⟨ax,l8⟩
   .rcases c_.1 he with rfl|he
    .exact (a3 p af x U).mono cK.le
    .obtain ⟨x',gJ⟩:=km e he p af;obtain⟨ax,l8,ad⟩:=bA.yy p.1 p.2 x' gJ;rw[U]at l8;cases l8;have aU:=cS e he p af x' gJ;intro b ag;rcases ad b ag with ad|ad
     .exact aU b ad
     .exact cK.le _ _ ad
   .refine dh bk p y (a4 bk p y aw ao λq au=>lZ q ?_) ao λq au=>lZ q ?_
    .simp [au]
    .simp only[List.flatMap_cons,a6];exact .inr au
end
end Go.aS
namespace Go.aS
open D
def oA(P:Program)(f:Nat)(args:Array Value)(w:World)(R:Ending->World->Prop):Prop:=match(callFunc f args).run P w with
 | .ok (.enter g vs) w'=>Calls P g vs w' R
 | .ok (.value v) w'=>R (.returned v) w'
 |_=>False
theorem oA.mono{P:Program}{f:Nat}{args:Array Value}{w:World}{R UP:Ending->World->Prop}(h:oA P f args w R)(k:∀e w',R e w'->UP e w'):oA P f args w UP:=by
 unfold oA at *
 split
 .rename_i au;simp only[au]at h;exact Calls.mono h k
 .rename_i au;simp only[au]at h;exact k _ _ h
 .rename_i I aa
  split at h
  .rename_i g vs w' au;exact I _ _ _ au
  .rename_i v w' au;exact aa _ _ au
  .exact h
def lP(M:Mem):T->Prop
 | .bt ts=>∀c∈ts,dV M c
 |t=>dV M t
theorem Qy{M:Mem}{G:bK}{t:T}(h:lP M t):fg M G t:=by
 cases t with
 |bt ts=>
  intro c ad;have:=h c ad;cases c with
  |leaf d v=>exact .inr this
  |agg cs=>exact this
  |bt=>exact this.elim
  |_=>exact this
 |_=>exact p6 h
def ht(E:Env)(f:Nat):Nat->List T->List T
 |_,[]=>[]
 |i,t::ts=>if E.mode f i=.eF then t::ht E f (i+1) ts else ht E f (i+1) ts
def Good(E:Env)(M:Mem):Prop:=∀M',M.le M'->E.H2 M'
theorem Good.mono{E:Env}{M M':Mem}(h:Good E M)(k:M.le M'):Good E M':=λM2 aa=>h M2 (Mem.le_trans k aa)
def sO(E:Env)(f:Nat)(az:List D)(r:D)(outs:List D):Prop:=∀(M:Mem)(w:World)(ts:List T),ts.map T.erase=az->(∀t∈ts,t.tidy/\dV M t)->(∀t∈ht E f 0 ts,t.node=true)->dT M w (T.bq ts)->fE M w->Good E M ->
 oA E.P f (T.bP ts).toArray w λe w'=>∃M' t fv,e=.returned t.val/\t.erase=r/\t.tidy/\lP M' t/\fv.map T.erase=outs/\(∀o∈fv,o.tidy/\T.wf M' o)/\T.bP fv=T.bP (ht E f 0 ts) /\
  dT M' w' (t.blocks++T.bq fv)/\fE M' w'/\cN M (keys (T.bq ts)) w M' (keys (t.blocks++T.bq fv)) w'
def lL(E:Env)(call:Nat->List D->Option (D×List D)):Prop:=∀f az r outs,call f az=some (r,outs)->sO E f az r outs
mutual
theorem LJ{M M':Mem}:∀(t:T),t.tidy->t.erase.flat=true->T.wf M t->T.wf M' t
 | .leaf d v,al,hf,hw=>by
  simp only[T.erase]at hf;cases d<;>simp_all [T.tidy,D.flat];rcases hw with⟨h,_⟩|h
  .cases h
  .exact .inr (by simp only[bu]at h⊢;exact h)
 | .own g cap e sp es,al,hf,hw=>by
  simp only[T.wf]at hw⊢;exact⟨hw.1,hw.2.1,hw.2.2.1,hw.2.2.2.1,Vm es al (by simpa[T.erase,D.flat]using hf) hw.2.2.2.2⟩
 | .nil,_,_,_=>by simp[T.wf]
 | .agg _,_,_,hw=>by simp[T.wf]at hw
 | .box g e cs,_,hf,_=>by simp[T.erase,D.flat]at hf
 | .map r c es,_,hf,_=>by simp[T.erase,D.flat]at hf
 | .bld v0 m8 t0 gn iG,_,hf,_=>by simp[T.erase,D.flat]at hf
 | .bt _,_,_,hw=>by simp[T.wf]at hw
theorem Lb{M M':Mem}:∀(ts:List T),T.ho ts->D.lV (T.g7 ts)=true->T.ga M ts->T.ga M' ts
 |[],_,_,_=>by simp[T.ga]
 |t::ts,al,hf,hw=>by
  simp only[T.g7,D.lV,eb]at hf;exact⟨LJ t al.1 hf.1 hw.1,Lb ts al.2 hf.2 hw.2⟩
theorem Vm{M M':Mem}:∀(es:List (List T)),T.iv es->D.AR (T.px es)=true->T.ha M es->T.ha M' es
 |[],_,_,_=>by simp[T.ha]
 |t::ts,al,hf,hw=>by
  simp only[T.px,D.AR,eb]at hf;exact⟨Lb t al.1 hf.1 hw.1,Vm ts al.2 hf.2 hw.2⟩
end
theorem w4{M M':Mem}{t:T}(al:t.tidy)(hf:t.erase.flat=true)(ak:dV M t):dV M' t:=by
 cases t with
 |leaf d v=>
  simp only[T.erase]at hf;cases d<;>simp_all [T.tidy,D.flat,dV,bu]
 |agg cs=>exact Lb cs al (by simpa[T.erase,D.flat]using hf) ak
 |bt=>exact ak.elim
 |own g cap e sp es=>exact LJ _ al hf ak
 |nil=>simp[dV,T.wf]
 |box=>simp[T.erase,D.flat]at hf
 |map=>simp[T.erase,D.flat]at hf
 |bld=>simp[T.erase,D.flat]at hf
theorem Vl:∀{az:List D},D.lV az=true->∀d∈az,d.flat=true
 |[],_,d,ah=>by cases ah
 |c::cs,h,d,ah=>by
  simp only[D.lV,eb]at h;rcases c_.1 ah with rfl|ah
  .exact h.1
  .exact Vl h.2 d ah
theorem ahw{M M':Mem}{t:T}(al:t.tidy)(hf:t.erase.flat=true)(ak:lP M t):lP M' t:=by
 cases t with
 |bt ts=>
  intro c ad;simp only[T.erase,D.flat]at hf;refine w4 ((T.o4 ts).1 al c ad) (Vl hf c.erase ?_) (ak c ad);rw[T.hz];exact ba.2 ⟨c,ad,rfl⟩
 |leaf d v=>exact w4 (t:=.leaf d v) al hf ak
 |agg cs=>exact w4 (t:=.agg cs) al hf ak
 |own g cap e sp es=>exact w4 (t:=.own g cap e sp es) al hf ak
 |nil=>exact w4 (M:=M) (M':=M') (t:=.nil) al hf ak
 |box g e cs=>exact w4 (t:=.box g e cs) al hf ak
 |map r c es=>exact w4 (t:=.map r c es) al hf ak
 |bld v0 m8 t0 gn iG=>exact w4 (M:=M) (M':=M') (t:=.bld v0 m8 t0 gn iG) al hf ak
theorem M9{d:D}(h:d.flat=true):d.ln=true:=by
 unfold D.ln
 split
 .rfl
 .exact h
theorem ahv{M M':Mem}{t:T}(al:t.tidy)(hf:t.erase.ln=true)(ak:lP M t):lP M' t:=by
 unfold D.ln at hf
 split at hf
 .rename_i he;cases t with
  |leaf d v=>
   simp only[T.erase]at he;subst he;have ak:bu M (.sl []) v:=ak;show bu M' (.sl []) v;simp only[bu]at ak⊢;obtain⟨A,n,c,I,aa,aB,aW,_⟩:=ak;exact⟨A,n,c,I,aa,aB,aW,.inl trivial⟩
  |_=>simp[T.erase]at he
 .exact ahw al hf ak
section
variable{n:Nat}{R:Nat->Value}{M:Mem}{F aD:Fr}{G:bK}{H:dD}{a:Act}{w:World}
def tO(a:Act)(iB:List Value):Arg->Value
 | .gK x=>a.eval x
 | .cap j=>iB.getD j undef
def wJ(n:Nat)(bs:List Arg):Prop:=∀x,Arg.gK x∈bs->Fits n x
theorem wJ.tail{b:Arg}{bs:List Arg}(h:wJ n (b::bs)):wJ n bs:=λx U=>h x (by simp[U])
def hn:List (Option T)->dD
 |[]=>[]
 |some t::ms=>t.blocks++hn ms
 |none::ms=>hn ms
def m1(E:Env)(f:Nat)(M:Mem)(a:Act):Nat->List Arg->List (Option T)->Prop
 |_,[],[]=>True
 |i,b::bs,some t::ms=>(∃x,b=.gK x/\t.val=a.eval x)/\E.mode f i=.move/\t.tidy/\dV M t/\m1 E f M a (i+1) bs ms
 |i,b::bs,none::ms=>E.mode f i≠.move/\m1 E f M a (i+1) bs ms
 |_,_,_=>False
theorem Po{E:Env}{f:Nat}:∀(bs:List Arg)(i:Nat){F:Fr}{G:bK}{H:dD}{aX:Fr}{ms:List (Option D)},Inv n R M F G H a w->wJ n bs->kE E f i F bs=some (ms,aX) ->
  ∃fl bQ,fl.map (vN T.erase)=ms/\m1 E f M a i bs fl/\Inv n R M aX bQ (hn fl++H) a w/\Sub (a8 bQ++(hn fl++H)) (a8 G++H)
 |[],i,F,G,H,aX,ms,h,_,af=>by
  simp only[kE,aE,cD]at af;obtain⟨rfl,rfl⟩:=af;exact⟨[],G,rfl,trivial,by simpa[hn]using h,by simpa[hn]using Sub.refl _⟩
 |b::bs,i,F,G,H,aX,ms,h,hf,af=>by
  simp only[kE]at af
  have EP:E.mode f i≠.move->(match kE E f (i+1) F bs with
    |some (az,bN)=>some (none::az,bN)
    |none=>none)=some (ms,aX)->∃fl bQ,fl.map (vN T.erase)=ms/\m1 E f M a i (b::bs) fl/\Inv n R M aX bQ (hn fl++H) a w/\Sub (a8 bQ++(hn fl++H)) (a8 G++H):=λhm af=>by
   cases hr:kE E f (i+1) F bs with
   |none=>simp[hr]at af
   |some cM=>
    obtain⟨az,agw⟩:=cM;simp only[hr,aE,cD]at af;obtain⟨rfl,rfl⟩:=af;obtain⟨fl,Mt,cb,cK,cS,dh⟩:=Po bs (i+1) h hf.tail hr;exact⟨none::fl,Mt,by simp[cb],⟨hm,cK⟩,by simpa[hn]using cS,by simpa[hn]using dh⟩
  cases mE:E.mode f i with
  |snap=>rw[mE]at af;exact EP (by rw[mE];simp) af
  |eF=>rw[mE]at af;exact EP (by rw[mE];simp) af
  |move=>
   rw[mE]at af;cases b with
   |cap j=>cases af
   |gK x=>
    simp only at af;cases an:c9 E F x with
    |none=>simp[an]at af
    |some q=>
     obtain⟨d,agv⟩:=q;simp only[an]at af;cases hr:kE E f (i+1) agv bs with
     |none=>simp[hr]at af
     |some cM=>
      obtain⟨az,agw⟩:=cM;simp only[hr,aE,cD]at af;obtain⟨rfl,rfl⟩:=af;obtain⟨t,al1,a2,bA,a3,a4,cj,eQ⟩:=vU h (hf x (by simp)) an;obtain⟨fl,Mt,cb,cK,cS,dh⟩:=Po bs (i+1) cj hf.tail hr;refine⟨some t::fl,Mt,by simp[a2,cb],⟨⟨x,rfl,bA⟩,mE,a3,a4,cK⟩,?_,?_⟩
      .refine { cS with bd:=?_ };refine cS.bd.perm (cc _ ?_);simp only[hn,cx];exact eW _ _ _
      .refine Sub.trans (Sub.xt ?_) (dh.trans eQ);refine cc _ ?_;simp only[hn,cx];exact eW _ _ _
def Hl(M:Mem)(G:bK)(F:Fr)(E:Env)(c:Operand)(iB:List Value):Prop:=∀(j:Nat)(d:D),(HJ E F c)[j]?=some d->∃v,iB[j]?=some v/\aJ M G d v
theorem MK{E:Env}(h:Inv n R M F G H a w){c:Operand}{iB:List Value}(ad:Hl M G F E c iB){b:Arg}(hf:∀x,b=.gK x->Fits n x){d:D}(ah:j4 E F c b=some d):de M G d (tO a iB b):=by
 cases b with
 |gK x=>exact h.aZ (E:=E) (hf x rfl) ah
 |cap j=>
  simp only[j4]at ah;obtain⟨v,av,hl⟩:=ad j d ah;simp only[tO,List.getD_eq_getElem?_getD,av,nA];cases d with
  |fn f cs=>exact jY (Df hl)
  |agg=>simp[aJ,bu]at hl
  |own=>simp[aJ,bu]at hl
  |_=>exact jY (by simpa only[fm]using hl)
theorem Pp{E:Env}{f:Nat}(h:Inv n R M F G H a w){bN:Fr}{c:Operand}{iB:List Value}(ad:Hl M G F E c iB){cL:Mem}(bW:M.le cL){x:Option T}{l:Option (Nat×Path)}
  (U:∀s ps,l=some (s,ps)->∃y,x=some y/\(bg G s).bw ps=some y/\y.node=true/\y.tidy/\T.wf M y/\y.erase≠.undef)
  (ED:∀d bf,eV bN d=some bf->eV F d=some bf):
  ∀(bs:List Arg)(i:Nat){fl:List (Option T)}{az:List D},wJ n bs->m1 E f M a i bs fl->hk E f F c i bs=some l∨hk E f F c i bs=some none->gu E f F bN c (x.map T.erase) i bs (fl.map (vN T.erase))=some az ->
   (∀d∈iu E f F c i bs,(∃bf,eV bN d=some bf)->∀p∈d.c0,∀y,(bg G p.1).bw p.2=some y->Has cL y.blocks) ->
   ∃ts,ts.map T.erase=az/\T.bP ts=bs.map (tO a iB)/\(∀t∈ts,t.tidy/\dV cL t) /\
    (hk E f F c i bs=some none->ht E f i ts=[]/\(T.bq ts).Perm (hn fl)) /\
    (∀s ps y,hk E f F c i bs=some (some (s,ps))->x=some y->ht E f i ts=[y]/\(T.bq ts).Perm (hn fl++y.blocks))
 |[],i,fl,az,_,hm,hl,af,_=>by
  cases fl with
  |cons=>simp[m1]at hm
  |nil=>
   simp only[fR,gu,aE]at af;subst af;refine⟨[],rfl,rfl,by simp,λ_=>⟨rfl,by simp[T.bq,hn]⟩,λs ps y aU _=>by simp[hk]at aU⟩
 |b::bs,i,[],az,_,hm,_,_,_=>by simp[m1]at hm
 |b::bs,i,mt::fl,az,hf,hm,hl,af,ag=>by
  simp only[bL,gu]at af;have A0:∀d∈iu E f F c (i+1) bs,(∃bf,eV bN d=some bf)->∀p∈d.c0,∀y,(bg G p.1).bw p.2=some y->Has cL y.blocks:=λd ah=>ag d (by simp only[iu];exact fW _ ah);cases hr:gu E f F bN c (x.map T.erase) (i+1) bs (fl.map (vN T.erase))with
  |none=>
   rw[hr]at af
   split at af
   .rename_i au;cases au
   .cases af
  |some m9=>
   rw[hr]at af;have A_:m1 E f M a (i+1) bs fl:=by cases mt<;>simp only[m1]at hm<;>first|exact hm.2|exact hm.2.2.2.2
   by_cases ch:E.mode f i=.eF
   ·
    have ky:mt=none:=by
     cases mt with
     |none=>rfl
     |some t=>simp only[m1]at hm;rw[ch]at hm;exact absurd hm.2.1 (by simp)
    subst ky;simp only[hc,ch,q2]at af;simp only[hk,ch]at hl;have qK:hk E f F c i (b::bs)=r8 (j4 E F c b) (hk E f F c (i+1) bs):=by rw[hk,ch]
    cases kq:j4 E F c b with
    |none=>simp[kq,r8]at hl
    |some d0=>
     cases d0 with
     |alias Cc E6=>
      rw[kq]at hl;cases A8:hk E f F c (i+1) bs with
      |none=>simp[A8,r8]at hl
      |some zl=>
       cases zl with
       |some q=>simp[A8,r8]at hl
       |none=>
        simp only[A8,r8,aE]at hl;have hle:l=some (Cc,E6):=by rcases hl with hl|hl;exact hl.symm;cases hl
        obtain⟨y,aw,akm,fU,nh,xh,akq⟩:=U Cc E6 hle;subst aw;simp only[aM]at af;simp only[aE]at af;subst af;obtain⟨ts,t1,t2,t3,t4,t5⟩:=Pp h ad bW U ED bs (i+1) hf.tail A_ (.inr A8) hr A0;obtain⟨t6,t7⟩:=t4 A8;have gI:y.val=tO a iB b:=by
         have:=MK h ad (λx U=>hf x (by simp[U])) kq;obtain⟨z,aG,_,IL⟩:=this;rw[akm]at aG;cases aG;exact IL.symm
        refine⟨y::ts,by simp[t1],by simp[T.bP,gI,t2],?_,λaU=>?_,λs ps z _ aG=>?_⟩
        .intro t al;rcases c_.1 al with rfl|al
         .exact ⟨nh,(xW xh akq).mono bW⟩
         .exact t3 t al
        .rw [qK,kq,A8]at aU;simp[r8]at aU
        .cases aG;simp only[ht,ch,if_true,t6,T.bq,hn];exact⟨trivial,(cc _ t7).trans cu⟩
     |_=>simp[kq,r8]at hl
   .have qK:hk E f F c i (b::bs)=hk E f F c (i+1) bs:=by simp only[hk]
    rw[qK]at hl;obtain⟨ts,t1,t2,t3,t4,t5⟩:=Pp h ad bW U ED bs (i+1) hf.tail A_ hl hr A0;have go:∀(t:T),t.erase=az.headD .undef->az=t.erase::m9->t.val=tO a iB b->t.tidy->dV cL t->(hn (mt::fl))=t.blocks++hn fl ->
      ∃ts,ts.map T.erase=az/\T.bP ts=(b::bs).map (tO a iB)/\(∀t∈ts,t.tidy/\dV cL t) /\
       (hk E f F c i (b::bs)=some none->ht E f i ts=[]/\(T.bq ts).Perm (hn (mt::fl))) /\
       (∀s ps y,hk E f F c i (b::bs)=some (some (s,ps))->x=some y->ht E f i ts=[y]/\(T.bq ts).Perm (hn (mt::fl)++y.blocks)):=λt _ aT a5 ez eK jk=>by
     refine⟨t::ts,by rw[aT,bL,t1],by simp[T.bP,a5,t2],?_,λaU=>?_,λs ps y aU aw=>?_⟩
     .intro u hu;rcases c_.1 hu with rfl|hu
      .exact ⟨ez,eK⟩
      .exact t3 u hu
     .rw [qK]at aU;obtain⟨t6,t7⟩:=t4 aU;simp only[ht,ch,if_false,t6,T.bq,jk];exact⟨trivial,cc _ t7⟩
     .rw [qK]at aU;obtain⟨t6,t7⟩:=t5 s ps y aU aw;simp only[ht,ch,if_false,t6,T.bq,jk];refine⟨trivial,?_⟩;rw[cx];exact cc _ t7
    cases mt with
    |some t=>
     simp only[m1]at hm;obtain⟨⟨y,rfl,av⟩,_,al,ak,_⟩:=hm;simp only[aM,q2,aE]at af;subst af;exact go t rfl rfl av al (ak.mono bW) (by simp[hn])
    |none=>
     simp only[hc]at af;cases mE:E.mode f i with
     |eF=>exact absurd mE ch
     |move=>simp[mE,q2]at af
     |snap=>
      simp only[mE,q2]at af;cases kq:j4 E F c b with
      |none=>simp[kq]at af
      |some d=>
       simp only[kq,kf]at af;cases y_:eV bN d with
       |none=>simp[y_]at af
       |some bf=>
        simp only[y_,aE]at af;subst af;have av:=MK h ad (λx U=>hf x (by simp[U])) kq;obtain⟨t,a2,bA,a3,a4,cj⟩:=alx h bW av (ED d bf y_) (ag d (by simp only[iu,mE,kq,nA];exact cT) ⟨bf,y_⟩);subst a2;exact go t rfl rfl bA a3 a4 (by simp[hn,cj])
end
end Go.aS
namespace Go.aS
open D
section
variable{n:Nat}{R:Nat->Value}{M:Mem}{F aD:Fr}{G:bK}{H:dD}{a:Act}{w:World}
theorem Yv{E:Env}{f:Nat}{F:Fr}{c:Operand}{bs:List Arg}{a:Act}{G:bK}{M:Mem}{n:Nat}{R:Nat->Value}{H:dD}{w:World}{iB:List Value}(hi:Inv n R M F G H a w)(ad:Hl M G F E c iB)(hf:wJ n bs){s:Nat}{ps:Path}(h:hk E f F c 0 bs=some (some (s,ps))):
  ∃y,(bg G s).bw ps=some y/\y.node=true:=by
 have:∀(bs:List Arg)(i:Nat),wJ n bs->∀s ps,hk E f F c i bs=some (some (s,ps))->∃y,(bg G s).bw ps=some y/\y.node=true:=by
  intro bs
  induction bs with
  |nil=>intro i _ s ps aU;simp[hk]at aU
  |cons b bs aN=>
   intro i hf s ps aU;simp only[hk]at aU
   split at aU
   .cases kq:j4 E F c b with
    |none=>simp[kq,r8]at aU
    |some d=>
     rw[kq]at aU;unfold r8 at aU
     split at aU
     .rename_i Cc E6 he _;simp only[aE,cD]at aU he;obtain⟨rfl,rfl⟩:=aU;subst he;obtain⟨y,aw,fU,_⟩:=MK hi ad (λx U=>hf x (by simp[U])) kq;exact⟨y,aw,fU⟩
     .cases aU
   .exact aN (i+1) hf.tail s ps aU
 exact this bs 0 hf s ps h
theorem Rc{E:Env}{f:Nat}{F bN:Fr}{c:Operand}{l:Option D}{M:Mem}{a:Act}:∀(bs:List Arg)(i:Nat){fl:List (Option T)}{az:List D},m1 E f M a i bs fl->gu E f F bN c l i bs (fl.map (vN T.erase))=some az->∀d∈iu E f F c i bs,d=.undef∨∃bf,eV bN d=some bf
 |[],i,fl,az,_,_,d,ah=>by simp[iu]at ah
 |b::bs,i,[],az,hm,_,_,_=>by simp[m1]at hm
 |b::bs,i,mt::fl,az,hm,af,d,ah=>by
  simp only[bL,gu]at af;have A_:m1 E f M a (i+1) bs fl:=by cases mt<;>simp only[m1]at hm<;>first|exact hm.2|exact hm.2.2.2.2
  cases hr:gu E f F bN c l (i+1) bs (fl.map (vN T.erase))with
  |none=>
   rw[hr]at af
   split at af
   .rename_i au;cases au
   .cases af
  |some m9=>
   rw[hr]at af;simp only[iu,c_]at ah;rcases ah with ah|ah
   .subst ah
    split
    .rename_i mE;cases mt with
     |some t=>simp only[m1]at hm;rw[mE]at hm;exact absurd hm.2.1 (by simp)
     |none=>
      simp only[hc,mE,q2]at af;cases kq:j4 E F c b with
      |none=>simp[kq]at af
      |some d=>
       simp only[kq,kf]at af;cases y_:eV bN d with
       |none=>simp[y_]at af
       |some bf=>right;exact⟨bf,by simpa using y_⟩
    .exact .inl rfl
   .exact Rc bs (i+1) A_ hr d ah
theorem YM{G:bK}{s:Nat}{ps:Path}{y:T}(aw:(bg G s).bw ps=some y){r:dD}(hr:∀x',x'.val=y.val->∃bz,(bg G s).cy ps x'=some bz/\bz.val=(bg G s).val/\(x'.blocks++r).Perm (a8 (dS G s bz)))
  {bk:Nat} {p:Path} {z:T} (aG:(bg G bk).bw p=some z) (lZ:bk=s->mr ps p):∀b∈z.blocks,b∈r:=by
 obtain⟨bz,b_,cM,fI⟩:=hr (.leaf .undef y.val) rfl;have akr:(bg (dS G s bz) bk).bw p=some z:=by
  by_cases ae:bk=s
  .subst ae;rw[vP,T.yH ps b_ p (lZ rfl)];exact aG
  .rw [sx G bz ae];exact aG
 obtain⟨Cb,f1,_⟩:=qd akr;intro b ag;have I:b∈a8 (dS G s bz):=f1.mem_iff.1 (by simp[ag]);have aa:=fI.mem_iff.2 I;simpa[T.blocks]using aa
theorem YG{M:Mem}{x:T}(hw:T.wf M x)(al:x.tidy)(h:x.erase.node1=true):x.node=true:=by
 cases x with
 |leaf d v=>cases d<;>simp_all [T.tidy,T.erase,D.node1,T.node]
 |agg=>simp[T.wf]at hw
 |bt=>simp[T.wf]at hw
 |_=>rfl
theorem Zo(h:Inv n R M F G H a w){M':Mem}{w':World}(bW:M.le M')(eE:fE M' w'){l:Option (Nat×Path)}{fv:List T}{t:T}{r:dD}{x:Option T}
  (U:∀s ps,l=some (s,ps)->∃y,x=some y/\(bg G s).bw ps=some y/\y.node=true/\(y.blocks++r).Perm (a8 G)/\∀x',x'.val=y.val->∃bz,(bg G s).cy ps x'=some bz/\bz.val=(bg G s).val/\(x'.blocks++r).Perm (a8 (dS G s bz)))
  (ao:l=none->x=none/\r=a8 G) (lz:T.bP fv=T.bP x.toList) (pJ:∀o∈fv,o.tidy/\T.wf M' o) (dI:dT M' w' (r++(t.blocks++T.bq fv))) {jf:Fr} (ak:lq F l (fv.map T.erase)=some jf):
  ∃bS,Inv n R M' jf bS (t.blocks++[]) a w'/\∀g∈keys (a8 bS++(t.blocks++[])),g∈keys (r++(t.blocks++T.bq fv)):=by
 cases l with
 |none=>
  obtain⟨rfl,rfl⟩:=ao rfl;simp only[Option.toList_none,T.bP]at lz;have al:fv=[]:=by
   have:=congrArg dR lz;simp at this;exact this
  subst al;simp only[fR,lq,aE]at ak;subst ak;simp only[T.bq]at dI⊢;exact⟨G,h.world bW dI eE,λg ak=>ak⟩
 |some q=>
  obtain⟨s,ps⟩:=q;obtain⟨y,rfl,aw,fU,pL,mG⟩:=U s ps rfl;simp only[Option.toList_some,T.bP]at lz
  match fv,lz,pJ,dI,ak with
  |[],lz,_,_,_=>simp[T.bP]at lz
  |_::_::_,lz,_,_,_=>simp[T.bP]at lz
  |[x'],lz,pJ,dI,ak=>
   simp only[T.bP,zD,and_true]at lz;obtain⟨r4,zg⟩:=pJ x' (by simp);simp only[bL,fR,lq]at ak
   split at ak
   case isFalse=>cases ak
   rename_i pH;obtain⟨bz,b_,cM,fI⟩:=mG x' lz;have fZ:(r++(t.blocks++T.bq [x'])).Perm (a8 (dS G s bz)++(t.blocks++[])):=by
    simp only[T.bq,bB];refine dn ?_ (fI.append_right t.blocks);refine List.perm_append_comm.trans ?_;rw[cx];refine List.perm_append_comm.trans ?_;simp only[cx];exact XW _
   obtain⟨aX,b9,k2⟩:=h.path bW b_ cM (j7 s ps) (Gv aw b_ (λ_=>⟨YG zg r4 pH,lz⟩)) r4 zg (p5 aw fU) (dI.perm fZ) eE;rw[b9]at ak;simp only[aM,aE]at ak;subst ak;refine⟨_,k2,λg ak=>?_⟩;rw[p4]at ak;exact(fZ.symm.map cA).mem_iff.1 ak
def SQ(n:Nat)(R:Nat->Value)(M:Mem)(B:List Nat)(w:World)(jf:Fr)(r:D)(a:Act)(e:Ending)(w':World):Prop:=
 ∃M' bS t,e=.returned t.val/\t.erase=r/\t.tidy/\lP M' t/\Inv n R M' jf bS (t.blocks++[]) a w'/\cN M B w M' (keys (a8 bS++(t.blocks++[]))) w'
theorem ab0{E:Env}{call:Nat->List D->Option (D×List D)}(cn:lL E call)(ef:Good E M)(h:Inv n R M F G [] a w){g:Nat}{c:Operand}(aiB:Fits n c){bs:List Arg}(u2:wJ n bs){r:D}{jf:Fr}(ad:kn E call F g c bs=some (r,jf))
  {iB:List Value} (Ib:a.eval c=.func (.func g) #[] iB.toArray):
  oA E.P g (bs.map (tO a iB)).toArray w (SQ n R M (keys (a8 G)) w jf r a):=by
 simp only[kn]at ad;cases N9:kE E g 0 F bs with
 |none=>simp[N9]at ad
 |some q=>
 obtain⟨ms,aX⟩:=q;simp only[N9]at ad;cases qK:hk E g aX c 0 bs with
 |none=>simp[qK]at ad
 |some l=>
 simp only[qK]at ad;cases rS:pI aX l with
 |none=>simp[rS]at ad
 |some cM=>
 obtain⟨k3,bN⟩:=cM;simp only[rS]at ad;cases tm:gu E g aX bN c k3 0 bs ms with
 |none=>simp[tm]at ad
 |some az=>
 simp only[tm]at ad;cases db:call g az with
 |none=>simp[db]at ad
 |some fI=>
 obtain⟨k7,outs⟩:=fI;simp only[db]at ad;obtain⟨fl,bQ,ajp,Wv,I,EF⟩:=Po bs 0 h u2 N9;subst ajp;have VV:Hl M bQ aX E c iB:=by
  intro j d ah;unfold HJ at ah;cases aP:aZ E aX c with
  |none=>simp[aP]at ah
  |some d0=>
   have av:=I.aZ aiB aP;cases d0 with
   |fn M5 cs=>
    simp only[aP]at ah;obtain⟨vs,EJ,EK⟩:=av;rw[Ib]at EJ;simp only[Value.func.injEq,Fn.func.injEq]at EJ;have:iB=vs:=by have:=EJ.2.2;simpa using congrArg Array.toList this
    rw[this];exact EK.get ah
   |_=>simp[aP]at ah
 obtain⟨x,aja,ED,r3,zf,lZ⟩:∃x:Option T,k3=x.map T.erase/\(∀d bf,eV bN d=some bf->eV aX d=some bf) /\
   (∀s ps,l=some (s,ps)->∃y,x=some y/\(bg bQ s).bw ps=some y/\y.node=true/\y.tidy/\T.wf M y/\y.erase≠.undef)/\(l=none->x=none) /\
   (∀d bf,eV bN d=some bf->∀s ps,l=some (s,ps)->∀p∈d.c0,p.1=s->mr ps p.2):=by
  cases l with
  |none=>
   simp only[pI,aE,cD]at rS;obtain⟨rfl,rfl⟩:=rS;exact⟨none,rfl,λ_ _ aU=>aU,λ_ _ aU=>(by cases aU),λ_=>rfl,λ_ _ _ _ _ aU=>(by cases aU)⟩
  |some q=>
   obtain⟨s,ps⟩:=q;obtain⟨y,aw,fU⟩:=Yv I VV u2 qK;simp only[pI,I.b6,aw,aM]at rS
   split at rS
   case isFalse=>cases rS
   rename_i hex;cases qO:aS.setAt aX s ps .undef with
   |none=>simp[qO]at rS
   |some alZ=>
    simp only[qO,aM,aE,cD]at rS;obtain⟨rfl,rfl⟩:=rS;refine⟨some y,rfl,λd bf aU=>(Xy qO aU).1,λbk pW aU=>?_,λaU=>(by cases aU),λd bf aU bk pW hl=>?_⟩
    .cases aU;exact⟨y,rfl,aw,fU,I.k5 aw,I.me aw fU,λhu=>by rw[hu]at hex;simp[D.dC]at hex⟩
    .cases hl;exact(Xy qO aU).2
 subst aja;have fin:∀(nR:Mem)(lR:Fr)(jg:bK)(cL:Mem)(bx:dD),Inv n R nR lR jg (hn fl++[]) a w->M.le nR ->
   (∀s ps,l=some (s,ps)->∃y,x=some y/\(bg jg s).bw ps=some y/\y.node=true/\(y.blocks++bx).Perm (a8 jg)/\∀x',x'.val=y.val->∃bz,(bg jg s).cy ps x'=some bz/\bz.val=(bg jg s).val/\(x'.blocks++bx).Perm (a8 (dS jg s bz))) ->
   (l=none->bx=a8 jg)->(∀k∈keys (a8 jg),k∈keys (a8 bQ)) ->
   M.le cL->fE cL w->(∀ts:List T,(T.bq ts).Perm (hn fl++(x.map T.blocks).getD [])->dT cL w (T.bq ts)) ->
   (∀d∈iu E g aX c 0 bs,(∃bf,eV bN d=some bf)->∀p∈d.c0,∀y,(bg bQ p.1).bw p.2=some y->Has cL y.blocks) ->
   lq lR l outs=some jf->k7=r ->
   (∀(w':World)(M':Mem)(t:T)(fv:List T)(K:List Nat),t.erase=r->fv.map T.erase=outs->t.tidy->(∀o∈fv,o.tidy)->lP M' t->(∀o∈fv,T.wf M' o)->dT M' w' (t.blocks++T.bq fv)->fE M' w'->(∀k,k∈K↔k∈keys (hn fl++(x.map T.blocks).getD []))->cN cL K w M' (keys (t.blocks++T.bq fv)) w' ->
    ∃wP,nR.le wP/\lP wP t/\(∀o∈fv,T.wf wP o)/\dT wP w' (bx++(t.blocks++T.bq fv))/\fE wP w'/\cN M (keys (a8 G)) w wP (keys (bx++(t.blocks++T.bq fv))) w') ->
   oA E.P g (bs.map (tO a iB)).toArray w (SQ n R M (keys (a8 G)) w jf r a):=by
  intro nR lR jg cL bx i3 VD II ajq A6 VE ajn aiy aiw td Oe after;obtain⟨ts,t1,t2,t3,t4,t5⟩:=Pp I VV VE r3 ED bs 0 u2 Wv (.inl qK) tm aiw;have Ip:T.bP (ht E g 0 ts)=T.bP x.toList/\(T.bq ts).Perm (hn fl++(x.map T.blocks).getD [])/\(∀t∈ht E g 0 ts,t.node=true):=by
   cases l with
   |none=>
    obtain⟨t6,t7⟩:=t4 qK;have:=zf rfl;subst this;exact⟨by rw[t6];rfl,by simpa using t7,by rw[t6];simp⟩
   |some q=>
    obtain⟨s,ps⟩:=q;obtain⟨y,rfl,_,fU,_⟩:=r3 s ps rfl;obtain⟨t6,t7⟩:=t5 s ps y qK rfl;exact⟨by rw[t6];rfl,by simpa using t7,by rw[t6];simpa using fU⟩
  have gW:=cn g az k7 outs db cL w ts t1 t3 Ip.2.2 (aiy ts Ip.2.1) ajn (ef.mono VE);rw[t2]at gW;refine gW.mono ?_;rintro e w' ⟨M',t,fv,rfl,qH,u5,aiF,V1,NH,V2,aiG,aiH,aiI⟩;rw[Oe]at qH;obtain⟨wP,f1,f2,f3,f4,f5,f6⟩:=after w' M' t fv (keys (T.bq ts)) qH V1 u5 (λo an=>(NH o an).1) aiF (λo an=>(NH o an).2) aiG aiH (λk=>(Ip.2.1.map cA).mem_iff) aiI;rw[Ip.1]at V2;rw[<-V1]at td;obtain⟨bS,c5,eo⟩:=Zo i3 f1 f5 II (λaU=>⟨zf aU,ajq aU⟩) V2 (λo an=>⟨(NH o an).1,f3 o an⟩) f4 td;exact⟨wP,bS,t,rfl,qH,u5,f2,c5,f6.weaken eo⟩
 have El:∀k∈keys (a8 bQ++hn fl),k∈keys (a8 G):=λk aj=>by
  have:=EF k (by simpa[keys]using aj);simpa[keys]using this
 by_cases rQ:(k7.ln&&outs.all flat)=true
 .simp only[rQ,if_true]at ad;cases td:lq aX l outs with
  |none=>simp[td]at ad
  |some agt=>
  simp only[td,aM,aE,cD]at ad;obtain⟨rfl,rfl⟩:=ad;simp only[eb,fB]at rQ;obtain⟨bx,pM,Bh,fZ⟩:∃bx:dD,(∀s ps,l=some (s,ps)->∃y,x=some y/\(bg bQ s).bw ps=some y/\y.node=true/\(y.blocks++bx).Perm (a8 bQ)/\∀x',x'.val=y.val->∃bz,(bg bQ s).cy ps x'=some bz/\bz.val=(bg bQ s).val/\(x'.blocks++bx).Perm (a8 (dS bQ s bz)))/\(l=none->bx=a8 bQ)/\(((hn fl++(x.map T.blocks).getD [])++bx).Perm (a8 bQ++(hn fl++[]))):=by
   cases l with
   |none=>
    have:=zf rfl;subst this;exact⟨a8 bQ,λ_ _ aU=>(by cases aU),λ_=>rfl,by simpa using cu⟩
   |some q=>
    obtain⟨s,ps⟩:=q;obtain⟨y,rfl,aw,fU,_⟩:=r3 s ps rfl;obtain⟨Fw,dk,ea⟩:=qd aw;refine⟨Fw,λbk pW aU=>?_,λaU=>(by cases aU),?_⟩
    .cases aU;exact⟨y,rfl,aw,fU,dk,ea⟩
    .simp only[aM,nA,cx,bB];exact(cc _ dk).trans cu
  have fH:=I.bd.perm fZ.symm;have Oc:∀k∈keys bx,k∈keys (a8 bQ):=λk aj=>by
   cases l with
   |none=>rw[Bh rfl]at aj;exact aj
   |some q=>
    obtain⟨y,_,_,_,dk,_⟩:=pM q.1 q.2 rfl;exact(dk.map cA).mem_iff.1 (by rw[aQ];exact vM _ aj)
  refine fin M aX bQ (M.jS (keys bx) w) bx I (Mem.le_refl M) pM Bh (λk aj=>aj) (Mem.EU fH.right (λk aj=>aj)) (I.mem.jS _) (λts e3=>(fH.perm (X5 _ e3.symm)).jS) ?_ td rfl ?_
  .intro d ah hex p af y aw;obtain⟨bf,l0⟩:=hex;have ch:∀b∈y.blocks,b∈bx:=by
    cases l with
    |none=>
     rw[Bh rfl];obtain⟨Cb,f1,_⟩:=qd aw;exact λb ag=>f1.mem_iff.1 (by simp[ag])
    |some q=>
     obtain⟨z,_,aG,_,_,ea⟩:=pM q.1 q.2 rfl;exact YM aG ea aw (λae=>lZ d bf l0 q.1 q.2 rfl p af ae)
   have aU:Has (M.jS (keys bx) w) bx:=fH.right.has (λb ag=>ag);exact λb ag=>aU b (ch b ag)
  .intro w' M' t fv K al oR vi WO y7 OB yO tk dA eT;refine⟨M'.minus (keys bx),?_,?_,?_,?_,?_,?_⟩
   .intro k o aj;simp only[Mem.minus];rw[if_neg]
    .exact eT.iW _ _ (Mem.EU fH.right (λk aj=>aj) _ _ aj)
    .intro iU;obtain⟨b,ag,rfl⟩:=ba.1 iU;have:=fH.right.apart b ag;rw[this]at aj;cases aj
   .exact ahv vi (by rw[al];exact rQ.1) y7
   .intro o an;exact LJ o (WO o an) (rQ.2 _ (by rw[<-oR];exact ba.2 ⟨o,an,rfl⟩)) (OB o an)
   .constructor
    .rw [aQ,gC];refine⟨fH.right.nodup,yO.nodup,?_⟩;rintro k hC k2 jz rfl;have hM:k<w.heap.size:=by
      obtain⟨b,ag,rfl⟩:=ba.1 hC;exact fH.right.lt ag
     rcases eT.own k jz with yI|yI
     .have:=fH.nodup;rw[aQ,gC]at this;exact this.2.2 k ((dA k).1 yI) k hC rfl
     .omega
    .intro b ag;rcases a6.1 ag with ag|ag
     .rw [eT.out b.1 (fH.right.lt ag) (λaj=>by
       have:=fH.nodup;rw[aQ,gC]at this
       exact this.2.2 b.1 ((dA b.1).1 aj) b.1 (ba.2 ⟨b,ag,rfl⟩) rfl)]
      exact fH.right.heap b ag
     .exact yO.heap b ag
    .intro b ag;simp only[Mem.minus]
     split
     .rfl
     .rename_i y3;rcases a6.1 ag with ag|ag
      .exact absurd (ba.2 ⟨b,ag,rfl⟩) y3
      .exact yO.apart b ag
   .intro k o aj;simp only[Mem.minus]at aj
    split at aj
    .cases aj
    .exact tk k o aj
   .have yL:∀k∈K,k∈keys (a8 G):=λk aj=>El k (by
     have aa:=(dA k).1 aj;have aB:k∈((hn fl++(x.map T.blocks).getD [])++bx).map cA:=by rw[aQ];exact iZ _ aa
     have:=(fZ.map cA).mem_iff.1 aB
     simpa[keys]using this)
    constructor
    .exact eT.os
    .exact eT.tape
    .exact eT.output
    .exact eT.size
    .intro k aj NS;exact eT.out k aj (λaU=>NS (yL k aU))
    .intro k o aj;simp only[Mem.minus];rw[if_neg]
     .exact eT.iW _ _ (Mem.EU fH.right (λk aj=>aj) _ _ aj)
     .intro iU;obtain⟨b,ag,rfl⟩:=ba.1 iU;have:=fH.right.apart b ag;rw[this]at aj;cases aj
    .intro k o aj;simp only[Mem.minus]at aj
     split at aj
     .cases aj
     .rename_i y3;rcases eT.jC k o aj with aa|aa|aa
      .simp only[Mem.jS]at aa;rw[if_neg y3]at aa;exact .inl aa
      .exact .inr (.inl (yL k aa))
      .exact .inr (.inr aa)
    .intro k aj;simp only[keys,aQ,a6]at aj;rcases aj with aj|aj
     .exact .inl (El k (by simp only[keys,aQ,a6];exact .inl (Oc k aj)))
     .rcases eT.own k (by simp only[keys,aQ,a6];exact aj)with aa|aa
      .exact .inl (yL k aa)
      .exact .inr aa
 .simp only[rQ]at ad;simp only[du,if_false]at ad;cases yV:lp aX (iu E g aX c 0 bs)with
  |none=>simp[yV]at ad
  |some lR=>
  simp only[yV]at ad;cases td:lq lR l outs with
  |none=>simp[td]at ad
  |some agt=>
  simp only[td,aM,aE,cD]at ad;obtain⟨rfl,rfl⟩:=ad;obtain⟨nR,jg,i3,yF,ame,ahr,ahz⟩:=Sk I yV;have aj5:=Rc bs 0 Wv tm;obtain⟨bx,pM,Bh,fZ⟩:∃bx:dD,(∀s ps,l=some (s,ps)->∃y,x=some y/\(bg jg s).bw ps=some y/\y.node=true/\(y.blocks++bx).Perm (a8 jg)/\∀x',x'.val=y.val->∃bz,(bg jg s).cy ps x'=some bz/\bz.val=(bg jg s).val/\(x'.blocks++bx).Perm (a8 (dS jg s bz)))/\(l=none->bx=a8 jg)/\(((hn fl++(x.map T.blocks).getD [])++bx).Perm (a8 jg++(hn fl++[]))):=by
   cases l with
   |none=>
    have:=zf rfl;subst this;exact⟨a8 jg,λ_ _ aU=>(by cases aU),λ_=>rfl,by simpa using cu⟩
   |some q=>
    obtain⟨s,ps⟩:=q;obtain⟨y,rfl,aw,fU,_⟩:=r3 s ps rfl;have WY:=ahz s ps y aw fU (λq au ae=>by
     rw[List.mem_flatMap]at au;obtain⟨d,ah,WH⟩:=au;rcases aj5 d ah with rfl|⟨bf,l0⟩
     .simp [D.c0,D.ji]at WH
     .have:=lZ d bf l0 s ps rfl q WH ae
      exact⟨this.2,this.1⟩)
    obtain⟨Fw,dk,ea⟩:=qd WY;refine⟨Fw,λbk pW aU=>?_,λaU=>(by cases aU),?_⟩
    .cases aU;exact⟨y,rfl,WY,fU,dk,ea⟩
    .simp only[aM,nA,cx,bB];exact(cc _ dk).trans cu
  have fH:=i3.bd.perm fZ.symm;have Oc:∀k∈keys bx,k∈keys (a8 jg):=λk aj=>by
   cases l with
   |none=>rw[Bh rfl]at aj;exact aj
   |some q=>
    obtain⟨y,_,_,_,dk,_⟩:=pM q.1 q.2 rfl;exact(dk.map cA).mem_iff.1 (by rw[aQ];exact vM _ aj)
  refine fin nR lR jg nR bx i3 yF.le pM Bh yF.sub yF.le i3.mem (λts e3=>(fH.perm (X5 _ e3.symm)).left) (λd ah _ p af y aw=>ahr d ah p af y aw) td rfl ?_;intro w' M' t fv K al oR vi WO y7 OB yO tk dA eT;have yL:∀k∈K,k∈keys (a8 G):=λk aj=>El k (by
   have aa:=(dA k).1 aj;have aB:k∈((hn fl++(x.map T.blocks).getD [])++bx).map cA:=by rw[aQ];exact iZ _ aa
   have aW:=(fZ.map cA).mem_iff.1 aB;simp only[keys,aQ,a6,bB]at aW⊢;rcases aW with aW|aW
   .exact .inl (yF.sub k aW)
   .exact .inr aW)
  refine⟨M',eT.iW,y7,OB,?_,tk,?_⟩
  .constructor
   .rw [aQ,gC];refine⟨fH.right.nodup,yO.nodup,?_⟩;rintro k hC k2 jz rfl;have hM:k<w.heap.size:=by
     obtain⟨b,ag,rfl⟩:=ba.1 hC;exact fH.right.lt ag
    rcases eT.own k jz with yI|yI
    .have:=fH.nodup;rw[aQ,gC]at this;exact this.2.2 k ((dA k).1 yI) k hC rfl
    .omega
   .intro b ag;rcases a6.1 ag with ag|ag
    .rw [eT.out b.1 (fH.right.lt ag) (λaj=>by
      have:=fH.nodup;rw[aQ,gC]at this
      exact this.2.2 b.1 ((dA b.1).1 aj) b.1 (ba.2 ⟨b,ag,rfl⟩) rfl)]
     exact fH.right.heap b ag
    .exact yO.heap b ag
   .intro b ag;rcases a6.1 ag with ag|ag
    .cases hm:M' b.1 with
     |none=>rfl
     |some o=>
      exfalso;rcases eT.jC b.1 o hm with aa|aa|aa
      .have:=fH.right.apart b ag;rw[this]at aa;cases aa
      .have:=fH.nodup;rw[aQ,gC]at this;exact this.2.2 b.1 ((dA b.1).1 aa) b.1 (ba.2 ⟨b,ag,rfl⟩) rfl
      .have:=fH.right.lt ag;omega
    .exact yO.apart b ag
  .constructor
   .exact eT.os
   .exact eT.tape
   .exact eT.output
   .exact eT.size
   .intro k aj NS;exact eT.out k aj (λaU=>NS (yL k aU))
   .exact Mem.le_trans yF.le eT.iW
   .intro k o aj;rcases eT.jC k o aj with aa|aa|aa
    .rcases yF.new k o aa with aB|aB
     .exact .inl aB
     .exact .inr (.inl (El k (by simp only[keys,aQ,a6];exact .inl aB)))
    .exact .inr (.inl (yL k aa))
    .exact .inr (.inr aa)
   .intro k aj;simp only[keys,aQ,a6]at aj;rcases aj with aj|aj
    .exact .inl (El k (by simp only[keys,aQ,a6];exact .inl (yF.sub k (Oc k aj))))
    .rcases eT.own k (by simp only[keys,aQ,a6];exact aj)with aa|aa
     .exact .inl (yL k aa)
     .exact .inr aa
end
end Go.aS
namespace Go.aS
open D
def L0(n:Nat)(o:Oper):Prop:=(∀x∈o.op.operands.toList,Fits n x)/\∀d,o.dst=some d->d<n
section
variable{n:Nat}{R:Nat->Value}{M:Mem}{F aD:Fr}{G:bK}{H:dD}{a:Act}{w:World}
theorem gZ{P:Program}{o:Oper}{a:Act}{w w':World}{v:Value}{K:Act->World->Prop}{Q:Exit->Act->World->Prop}(h:(execOp a.eval o).run P w=.ok (.value v) w')(k:K (a.put o.dst v) w'):o.wp P a w K Q:=by
 unfold Oper.wp;rw[h];exact k
theorem CI{P:Program}{o:Oper}{a:Act}{w w':World}{K:Act->World->Prop}{Q:Exit->Act->World->Prop}(h:(execOp a.eval o).run P w=.ok .skip w')(k:K (a.put o.dst undef) w'):o.wp P a w K Q:=by
 unfold Oper.wp;rw[h];exact k
theorem abz(a:Act)(xs:List Operand)(iB:List Value):(gF xs iB.length).map (tO a iB)=xs.map a.eval++iB:=by
 unfold gF;rw[aQ,List.map_map,List.map_map];congr 1;apply Ck;intro i;simp only[hb];by_cases hi:i<iB.length
 .rw [X9 hi,fx hi];simp[P7,tO,fx hi]
 .rw [mS (by simpa using hi),mS (by omega)];rfl
theorem Ru{M M':Mem}(bW:M.le M'){t:T}(al:t.tidy)(ak:dV M t)(ag:Has M' t.blocks){bf:D}(h:t.erase.freeze=some bf):∃t2:T,t2.erase=bf/\t2.val=t.val/\t2.tidy/\dV M' t2/\t2.blocks=[]:=by
 have leaf:bu M' bf t.val->∃t2:T,t2.erase=bf/\t2.val=t.val/\t2.tidy/\dV M' t2/\t2.blocks=[]:=λk=>by
  refine⟨.leaf bf t.val,by simp[T.erase],by simp[T.val],?_,k,by simp[T.blocks]⟩;cases bf<;>simp_all [T.tidy,bu]
 cases t with
 |leaf d v=>
  simp only[T.erase,zR d v ak,aE]at h;subst h;exact leaf (bu.mono bW _ _ ak)
 |agg cs=>
  simp only[T.erase,D.freeze,aA]at h;obtain⟨b8,h,rfl⟩:=h;have hr:=HV bW cs al ak (by simpa[T.blocks]using ag) b8 h;obtain⟨ts,a2,bA,a3,a4,cj⟩:=xX hr;have jI:T.bq ts=[]:=by rw[T.sW,tR];exact cj
  exact⟨.agg ts,by simp[T.erase,T.hz,a2],by simp[T.val,bA],a3,a4,by simp[T.blocks,jI]⟩
 |bt=>exact ak.elim
 |own g cap e sp es=>exact leaf (w5 bW _ al ak ag bf h)
 |nil=>exact leaf (w5 bW _ al ak ag bf h)
 |box g e cs=>exact leaf (w5 bW _ al ak ag bf h)
 |map=>simp[T.erase,D.freeze]at h
 |bld=>simp[T.erase,D.freeze]at h
theorem QX{M M':Mem}(bW:M.le M'):∀{ts:List T}{az:List D},T.ho ts->(∀t∈ts,dV M t)->Has M' (T.bq ts)->D.hA (T.g7 ts)=some az->∃us:List T,us.map T.erase=az/\T.bP us=T.bP ts/\T.ho us/\(∀t∈us,dV M' t)/\T.bq us=[]
 |[],az,_,_,_,h=>by
  simp only[T.g7,D.hA,aE]at h;subst h;exact⟨[],rfl,rfl,trivial,by simp,by simp[T.bq]⟩
 |t::ts,az,al,ak,ag,h=>by
  simp only[T.g7,D.hA]at h
  split at h
  .rename_i c' b8 I aa;simp only[aE]at h;subst h;simp only[T.bq]at ag;obtain⟨u,a2,bA,a3,a4,cj⟩:=Ru bW al.1 (ak t (by simp)) ag.left I;obtain⟨us,cb,cK,cS,dh,dr⟩:=QX bW al.2 (λx U=>ak x (by simp[U])) ag.right aa;refine⟨u::us,by simp[a2,cb],by simp[T.bP,bA,cK],⟨a3,cS⟩,?_,by simp[T.bq,cj,dr]⟩;intro x U;rcases c_.1 U with rfl|U
   .exact a4
   .exact dh x U
  .cases h
theorem QV{B:List Nat}{w w1:World}{Hq M':Mem}{aX:Fr}{bQ:bK}{t:T}(h:Inv n R M' aX bQ (t.blocks++[]) a w1)(al:t.tidy)(ae:lP M' t)(dst:Option Nat)(ah:∀d,dst=some d->d<n){b:Bool}{bf:D}(ad:lS b t.erase=some bf)
  (e:cN Hq B w M' (keys (a8 bQ++(t.blocks++[]))) w1):cJ n R Hq B w (fin aX dst bf) (a.put dst t.val) w1:=by
 cases b with
 |false=>
  simp only[lS,du,if_false,aE]at ad;subst ad;exact kM h al (Qy ae) dst ah e
 |true=>
  simp only[lS,if_true]at ad;rw[bB]at h e
  let M2:Mem:=M'.jS (keys t.blocks) w1
  have bW:M'.le M2:=Mem.EU h.bd.right (λk aj=>aj);have pD:Has M2 t.blocks:=h.bd.right.has (λb ag=>ag);have aa:Inv n R M2 aX bQ [] a w1:=h.world bW (by rw[bB];exact h.bd.jS) (h.mem.jS _);have a5:cN Hq B w M2 (keys (a8 bQ)) w1:=
   {e with
    iW:=Mem.le_trans e.iW bW
    jC:=λg o ak=>by
     simp only[M2,Mem.jS]at ak
     split at ak
     .rename_i aj;exact .inr (e.own g (by simp only[keys,aQ,a6];exact .inr aj))
     .exact e.jC g o ak
    own:=λg ak=>e.own g (by simp only[keys,aQ,a6];exact .inl ak) }
  obtain⟨t2,a2,bA,a3,a4,cj⟩:∃t2:T,t2.erase=bf/\t2.val=t.val/\t2.tidy/\lP M2 t2/\t2.blocks=[]:=by
   have one:∀{t:T},t.tidy->dV M' t->Has M2 t.blocks->t.erase.freeze=some bf->∃t2:T,t2.erase=bf/\t2.val=t.val/\t2.tidy/\lP M2 t2/\t2.blocks=[]:=λI aa aB aW=>by
    obtain⟨t2,cb,cK,cS,dh,dr⟩:=Ru bW I aa aB aW;refine⟨t2,cb,cK,cS,?_,dr⟩;cases t2<;>first|exact dh|exact dh.elim
   cases t with
   |bt ts=>
    simp only[T.erase,aA]at ad;obtain⟨az,ad,rfl⟩:=ad;obtain⟨us,cb,cK,cS,dh,dr⟩:=QX bW al ae (by simpa[T.blocks]using pD) ad;exact⟨.bt us,by simp[T.erase,T.hz,cb],by simp[T.val,cK],cS,dh,by simp[T.blocks,dr]⟩
   |leaf d v=>
    refine one (t:=.leaf d v) al ae pD ?_;simp only[T.erase]at ad⊢;cases d<;>first|exact ad|(simp[T.tidy]at al)
   |agg cs=>exact one (t:=.agg cs) al ae pD ad
   |own g cap e' sp es=>exact one (t:=.own g cap e' sp es) al ae pD ad
   |nil=>exact one (t:=.nil) al ae pD ad
   |box g e' cs=>exact one (t:=.box g e' cs) al ae pD ad
   |map r c es=>exact one (t:=.map r c es) al ae pD ad
   |bld v0 m8 t0 gn iG=>exact one (t:=.bld v0 m8 t0 gn iG) al ae pD ad
  have:=kM (M:=Hq) (w:=w) (B:=B) (t:=t2) (by rw[cj];exact aa) a3 (Qy a4) dst ah (by rw[cj];simpa using a5);rw[a2,bA]at this;exact this
set_option maxHeartbeats 1000000 in
theorem Mb{E:Env}{f:Nat}{V:List Nat}{call:Nat->List D->Option (D×List D)}(cn:lL E call)(ef:Good E M)(h:Inv n R M F G [] a w){o:Oper}(dM:L0 n o)(aP:cV E f V call F o=some aD)
  {K:Act->World->Prop} {Q:Exit->Act->World->Prop} (dA:∀cp w',cJ n R M (keys (a8 G)) w aD cp w'->K cp w'):o.wp E.P a w K Q:=by
 obtain⟨U,ah⟩:=dM;unfold cV at aP;cases au:o.op with
 |move x=>
  rw[au]at aP U;exact gZ (v:=a.eval x) (w':=w) (by simp only[execOp,au,Sem.run_pure]) (dA _ _ (adY h (U x (by simp[Op.operands])) o.dst ah aP))
 |assign x=>
  rw[au]at aP U;exact gZ (v:=a.eval x) (w':=w) (by simp only[execOp,au,Sem.run_pure]) (dA _ _ (Kt h (U x (by simp[Op.operands])) o.dst ah aP))
 |pick c x y=>
  rw[au]at aP U;simp only at aP;cases an:aZ E F c with
  |none=>simp[an]at aP
  |some s0=>
   simp only[an]at aP
   split at aP
   .rename_i t NB;cases NB;have ag:=jd (h.aZ (U c (by simp[Op.operands])) an);cases aw:aZ E F (if t then x else y)with
    |none=>simp[aw]at aP
    |some d=>
     simp only[aw,aM,aE]at aP;subst aP;have av:=h.aZ (x:=if t then x else y) (by cases t<;>exact U _ (by simp[Op.operands])) aw;refine gZ (v:=a.eval (if t then x else y)) (w':=w) ?_ (dA _ _ (ih h av o.dst ah));simp only[execOp,au,ag,Sem.run_bind,asBool,Sem.run_pure,Result.andThen_ok];cases t<;>rfl
   .cases aP
 |alloc t=>
  rw[au]at aP;simp only at aP
  split at aP
  .rename_i e aG;simp only[aE]at aP;subst aP;obtain⟨v,w',I,aa⟩:=aaF (E:=E) h aG o.dst ah;exact gZ (by simp only[execOp,au,Sem.run_bind,I,Result.andThen_ok,Sem.run_pure]) (dA _ _ aa)
  simp only[aA]at aP;obtain⟨z,aG,rfl⟩:=aP;obtain⟨v,w',I,aa⟩:=abQ (P:=E.P) h aG o.dst ah;exact gZ (by simp only[execOp,au,Sem.run_bind,I,Result.andThen_ok,Sem.run_pure]) (dA _ _ aa)
 |box t x=>
  rw[au]at aP U;simp only[X3]at aP;obtain⟨⟨d,aX⟩,al,aP⟩:=aP
  split at aP
  .simp only[aE]at aP;subst aP;obtain⟨v,w',I,aa⟩:=aen (P:=E.P) (E:=E) (v:=.nilIface) (d:=d) (t:=t) h (U x (by simp[Op.operands])) al o.dst ah;exact gZ (by simp only[execOp,au,Sem.run_bind,I,Result.andThen_ok,Sem.run_pure]) (dA _ _ aa)
  .cases aP
 |build t ps=>
  rw[au]at aP U;simp only at aP;cases aG:fC E.P t with
  |none=>simp[aG]at aP
  |some z=>
   cases af:iL E F ps.toList with
   |none=>simp[aG,af]at aP
   |some q=>
    obtain⟨az,aX⟩:=q;simp only[aG,af]at aP;have Ii:∀p∈ps.toList,Fits n p.2:=λp af=>U p.2 (by simp only[Op.operands,sv];exact ba.2 ⟨p,af,rfl⟩)
    split at aP
    .rename_i l e hu
     split at aP
     .rename_i hi;simp only[aA]at aP;obtain⟨cs,hf,rfl⟩:=aP;obtain⟨i,hi⟩:=X1.1 hi;obtain⟨v,I,aa⟩:=S6 h Ii aG af (place:=λi=>some (i*aY E.P e,aY E.P e)) (λcells lJ kZ=>by
       cases u_:E.P.info? t with
       |none=>simp[u_]at kZ
       |some it=>
        simp only[u_,kf]at kZ;unfold Program.built
        simp[hu,u_,kZ,hi,aY]) hf o.dst ah
      exact gZ (by simp only[execOp,au,Sem.run_bind,I,Result.andThen_ok,Sem.run_pure]) (dA _ _ aa)
     .cases aP
    .rename_i fs hu
     split at aP
     .rename_i hi;simp only[aA]at aP;obtain⟨cs,hf,rfl⟩:=aP;obtain⟨v,I,aa⟩:=S6 h Ii aG af (place:=λi=>(fs[i]?).map λfd=>(fd.offset,aY E.P fd.type)) (λcells lJ kZ=>by
       cases u_:E.P.info? t with
       |none=>simp[u_]at kZ
       |some it=>
        simp only[u_,kf]at kZ;unfold Program.built;simp only[hu,u_,kZ,Q9 hi];congr 1;funext k
        simp) hf o.dst ah
      exact gZ (by simp only[execOp,au,Sem.run_bind,I,Result.andThen_ok,Sem.run_pure]) (dA _ _ aa)
     .cases aP
    .cases aP
 |buildSlice t m ps=>
  rw[au]at aP U;simp only at aP;cases ae:eD E.P t with
  |none=>simp[ae]at aP
  |some e=>
   simp only[ae]at aP;cases aG:fC E.P e with
   |none=>simp[aG]at aP
   |some z=>
    cases af:iL E F ps.toList with
    |none=>simp[aG,af]at aP
    |some q=>
     obtain⟨az,aX⟩:=q;simp only[aG,af]at aP;have Ii:∀p∈ps.toList,Fits n p.2:=λp af=>U p.2 (by simp only[Op.operands,sv];exact ba.2 ⟨p,af,rfl⟩)
     split at aP
     .rename_i ad;simp only[aA]at aP;obtain⟨es,hf,rfl⟩:=aP;obtain⟨v,w',I,aa⟩:=YC h ae Ii aG af ad.1 ad.2.1 ad.2.2 hf o.dst ah;exact gZ (by simp only[execOp,au,Sem.run_bind,I,Result.andThen_ok,Sem.run_pure]) (dA _ _ aa)
     .cases aP
 |load t x=>
  rw[au]at aP U;simp only at aP;cases an:aZ E F x with
  |none=>simp[an]at aP
  |some d=>
   simp only[an,aA]at aP;obtain⟨bf,hl,rfl⟩:=aP;obtain⟨u,I,aa⟩:=acs h (h.aZ (U x (by simp[Op.operands])) an) hl;exact gZ (by simp only[execOp,au,Sem.run_bind,I,Result.andThen_ok,Sem.run_pure]) (dA _ _ (ih h aa o.dst ah))
 |store t x y=>
  rw[au]at aP U;simp only at aP
  split at aP
  case isFalse=>cases aP
  rename_i hi;cases an:c9 E F y with
  |none=>simp[an]at aP
  |some q=>
   obtain⟨d,aX⟩:=q;simp only[an]at aP;cases af:aZ E aX x with
   |none=>simp[af]at aP
   |some p=>
    simp only[af,aA]at aP;obtain⟨bN,c8,rfl⟩:=aP;obtain⟨er,bQ,rfl,cK,cS,dh,dr,gi⟩:=vU h (U y (by simp[Op.operands])) an;have av:=dr.aZ (U x (by simp[Op.operands])) af;obtain⟨w',bS,cF,ck,dG⟩:=abw dr cS dh av c8 (X1.1 hi);rw[cK]at cF;refine CI (by simp only[execOp,au,Sem.run_bind,cF,Result.andThen_ok,Sem.run_pure]) (dA _ _ (vR ck o.dst ah ?_));exact(cN.mf M w λg ak=>by have:=gi g ak;simpa[keys]using this).trans dG
 |nilCheck x=>
  rw[au]at aP U;simp only at aP;cases an:aZ E F x with
  |none=>simp[an]at aP
  |some d=>
   have av:=h.aZ (U x (by simp[Op.operands])) an;have key:∀g b,a.eval x=.pointer (some ⟨g,b,none⟩)->aD=fin F o.dst d->o.wp E.P a w K Q:=λg b aT a5=>by
    subst a5;refine gZ (v:=a.eval x) (w':=w) ?_ (dA _ _ (ih h av o.dst ah));simp only[execOp,au,aT,Sem.run_pure]
   simp only[an]at aP
   split at aP
   .rename_i s ps jl;cases jl;obtain⟨z,aG,zi,IL⟩:=av;rw[h.b6,aG]at aP;simp only[aM]at aP
    split at aP
    .rename_i cs ak;simp only[aE]at ak aP;obtain⟨g,e,ts,rfl,_⟩:=Kw (h.k5 aG) ak;exact key g 0 (by rw[IL];rfl) aP.symm
    .rename_i cs ak;simp only[aE]at ak aP;have hw:=h.me aG zi;rw[Se ak]at hw;have hr:=tZ hw (by simp);simp only[bu]at hr;obtain⟨g,b,vs,aT,_⟩:=hr;exact key g b (by rw[IL];exact aT) aP.symm
    .cases aP
   .rename_i s ps i c jl;cases jl;simp only[aE]at aP;obtain⟨z,aG,zi,fT⟩:=av;rcases fT with⟨g,cap,e,sp,es,k,_,_,_,eK⟩|⟨g,e,cs,_,_,ez⟩
    .exact key _ _ eK aP.symm
    .exact key _ _ ez aP.symm
   .rename_i cs jl;cases jl;simp only[aE]at aP;have hr:bu M (.ref cs) (a.eval x):=av;simp only[bu]at hr;obtain⟨g,b,vs,aT,_⟩:=hr;exact key g b aT aP.symm
   .cases aP
 |binOp op t x y Ya=>
  rw[au]at aP U;simp only at aP;cases an:aZ E F x with
  |none=>simp[an]at aP
  |some d1=>
   cases g9:aZ E F y with
   |none=>simp[an,g9]at aP
   |some d2=>
    simp only[an,g9,aA]at aP;obtain⟨d,ag,rfl⟩:=aP;obtain⟨z,I,aa⟩:=ac5 (h.aZ (U x (by simp[Op.operands])) an) (h.aZ (U y (by simp[Op.operands])) g9) ag x y (w:=w);refine gZ (v:=z) (w':=w) ?_ (dA _ _ (ih h aa o.dst ah));simp only[execOp,au];rw[Sem.run_bind,I];simp only[Result.andThen_ok,Sem.run_pure]
 |unOp op t x=>
  rw[au]at aP U;simp only at aP;cases an:aZ E F x with
  |none=>simp[an]at aP
  |some d=>
   cases d with
   |lit v=>
    simp only[an,aA]at aP;obtain⟨u,hu,rfl⟩:=aP;have av:=jd (h.aZ (U x (by simp[Op.operands])) an);obtain⟨I,aa⟩:=afY (P:=E.P) hu w;exact gZ (v:=u) (w':=w) (by simp only[execOp,au,av,Sem.run_bind,I,Result.andThen_ok,Sem.run_pure]) (dA _ _ (ih h (lM aa) o.dst ah))
   |_=>simp[an]at aP
 |convert s t x=>
  rw[au]at aP U;simp only at aP;cases an:aZ E F x with
  |none=>simp[an]at aP
  |some d=>
   simp only[an,aA]at aP;obtain⟨bf,hl,rfl⟩:=aP;obtain⟨u,w',I,aa⟩:=ZP h (h.aZ (U x (by simp[Op.operands])) an) hl o.dst ah;exact gZ (by simp only[execOp,au,Sem.run_bind,I,Result.andThen_ok,Sem.run_pure]) (dA _ _ aa)
 |makeFunc fn first ey=>
  rw[au]at aP U;cases fn with
  |func g=>
   simp only at aP
   split at aP
   .rename_i he;simp only[aA]at aP;obtain⟨cs,ad,rfl⟩:=aP;have ku:=S8 h (λx gJ=>U x (by simp[Op.operands];right;simpa using gJ)) ad;have qG:first=#[]:=by simpa using he
    subst qG;have av:de M G (.fn g cs) (.func (.func g) #[] (ey.map a.eval)):=⟨ey.toList.map a.eval,by congr 1;exact hq (by simp),ku⟩
    exact gZ (v:=.func (.func g) #[] (ey.map a.eval)) (w':=w) (by simp[execOp,au,Instr.makeFunc]) (dA _ _ (ih h av o.dst ah))
   .cases aP
  |_=>cases aP
 |makeMap t r=>
  rw[au]at aP;cases r with
  |some r=>cases aP
  |none=>
   simp only[aE]at aP;subst aP;obtain⟨v,w',I,aa⟩:=aad (P:=E.P) h t o.dst ah;exact gZ (by simp only[execOp,au,hc,Sem.run_bind,I,Result.andThen_ok,Sem.run_pure]) (dA _ _ aa)
 |makeSlice t l c=>
  rw[au]at aP U;simp only at aP;cases qM:aZ E F l with
  |none=>simp[qM]at aP
  |some dl=>
   cases rY:aZ E F c with
   |none=>simp[qM,rY]at aP
   |some s0=>
    cases ae:eD E.P t with
    |none=>simp[qM,rY,ae]at aP
    |some e=>
     simp only[qM,rY,ae]at aP
     split at aP
     .rename_i k m z aj hm aG
      split at aP
      .rename_i ad;simp only[aE]at aP;subst aP;obtain⟨v,w',I,aa⟩:=YR (P:=E.P) h ae aG (h.aZ (U l (by simp[Op.operands])) qM) (h.aZ (U c (by simp[Op.operands])) rY) aj hm ad.1 ad.2.1 ad.2.2.1 ad.2.2.2.1 ad.2.2.2.2 o.dst ah;exact gZ (by simp only[execOp,au,Sem.run_bind,I,Result.andThen_ok,Sem.run_pure]) (dA _ _ aa)
      .cases aP
     .cases aP
 |slice t x lo hi mx=>
  rw[au]at aP U;cases mx with
  |some m=>cases aP
  |none=>
   simp only at aP;cases an:aZ E F x with
   |none=>simp[an]at aP
   |some d=>
    cases hl:iK E F lo with
    |none=>simp[an,hl]at aP
    |some l=>
     cases aU:iK E F hi with
     |none=>simp[an,hl,aU]at aP
     |some hi'=>
      simp only[an,hl,aU,aA]at aP;obtain⟨bf,ae,rfl⟩:=aP;have cb:=SH h (λy aw=>U y (by subst aw;simp[Op.operands])) hl;have cK:=SH h (λy aw=>U y (by subst aw;simp[Op.operands])) aU;obtain⟨u,I,aa⟩:=abu h (h.aZ (U x (by simp[Op.operands])) an) cb cK ae;exact gZ (v:=u) (w':=w) (by simp only[execOp,au,hc,Sem.run_bind,I,Result.andThen_ok,Sem.run_pure]) (dA _ _ (ih h aa o.dst ah))
 |fieldAddr t x j=>
  rw[au]at aP U;simp only at aP;cases hf:n1 E.P t j with
  |none=>simp[hf]at aP
  |some fd=>
   cases an:aZ E F x with
   |none=>simp[hf,an]at aP
   |some d=>
    cases af:gB F d with
    |none=>simp[hf,an,af]at aP
    |some p=>
     simp only[hf,an,kf,af]at aP;have av:=h.aZ (U x (by simp[Op.operands])) an;cases p with
     |nj cs=>
      simp only at aP
      split at aP
      .rename_i ae;simp only[aE]at aP;subst aP;obtain⟨u,I,aa⟩:=Rq h hf ae av af;exact gZ (v:=u) (w':=w) (by simp only[execOp,au,Sem.run_bind,I,Result.andThen_ok,Sem.run_pure]) (dA _ _ (ih h aa o.dst ah))
      .cases aP
     |loc s ps i c=>
      simp only at aP
      split at aP
      .rename_i ae;simp only[aE]at aP;subst aP;obtain⟨u,I,aa⟩:=Rq h hf ae av af;exact gZ (v:=u) (w':=w) (by simp only[execOp,au,Sem.run_bind,I,Result.andThen_ok,Sem.run_pure]) (dA _ _ (ih h aa o.dst ah))
      .cases aP
 |field t x j=>
  rw[au]at aP U;simp only at aP;cases hf:n1 E.P t j with
  |none=>simp[hf]at aP
  |some fd=>
   cases an:aZ E F x with
   |none=>simp[hf,an]at aP
   |some d=>
    cases d with
    |agg cs=>
     simp only[hf,an,aA]at aP;obtain⟨bf,af,rfl⟩:=aP;obtain⟨u,I,aa⟩:=aca h hf (h.aZ (U x (by simp[Op.operands])) an) af;exact gZ (v:=u) (w':=w) (by simp only[execOp,au,Sem.run_bind,I,Result.andThen_ok,Sem.run_pure]) (dA _ _ (ih h aa o.dst ah))
    |_=>simp[hf,an]at aP
 |indexAddr t x ix=>
  rw[au]at aP U;simp only at aP;cases an:aZ E F x with
  |none=>simp[an]at aP
  |some d=>
   cases hi:aZ E F ix with
   |none=>simp[an,hi]at aP
   |some Vb=>
    simp only[an,hi,aA]at aP;obtain⟨bf,af,rfl⟩:=aP;obtain⟨u,I,aa⟩:=Z7 h (h.aZ (U x (by simp[Op.operands])) an) (h.aZ (U ix (by simp[Op.operands])) hi) af;exact gZ (v:=u) (w':=w) (by simp only[execOp,au,Sem.run_bind,I,Result.andThen_ok,Sem.run_pure]) (dA _ _ (ih h aa o.dst ah))
 |index t x ix=>
  rw[au]at aP U;simp only at aP;cases an:aZ E F x with
  |none=>simp[an]at aP
  |some d=>
   cases hi:aZ E F ix with
   |none=>simp[an,hi]at aP
   |some Vb=>
    cases ao:asNat Vb with
    |none=>simp[an,hi,ao]at aP
    |some i=>
     simp only[an,hi,kf,ao]at aP;have av:=h.aZ (U x (by simp[Op.operands])) an;have WT:=h.aZ (U ix (by simp[Op.operands])) hi
     split at aP
     .rename_i s j ae aH;cases aH;cases ae
      split at aP
      .rename_i hu;simp only[aA]at aP;obtain⟨b,ag,rfl⟩:=aP;obtain⟨u,I,aa⟩:=Yn (E:=E) (w:=w) hu ao av WT ag;exact gZ (v:=u) (w':=w) (by simp only[execOp,au,Sem.run_bind,I,Result.andThen_ok,Sem.run_pure]) (dA _ _ (ih h aa o.dst ah))
      .cases aP
     .rename_i cs j ae aH;cases aH;cases ae
      split at aP
      .rename_i l e aC
       split at aP
       .rename_i rT;simp only[aA]at aP;obtain⟨bf,ag,rfl⟩:=aP;obtain⟨u,I,aa⟩:=Yt h aC ao rT av WT ag;exact gZ (v:=u) (w':=w) (by simp only[execOp,au,Sem.run_bind,I,Result.andThen_ok,Sem.run_pure]) (dA _ _ (ih h aa o.dst ah))
       .cases aP
      .cases aP
     .cases aP
 |lookup t x k ok=>
  rw[au]at aP U;simp only at aP;cases an:aZ E F x with
  |none=>simp[an]at aP
  |some d=>
   cases aj:aZ E F k with
   |none=>simp[an,aj]at aP
   |some al9=>
    simp only[an,aj,aA]at aP;obtain⟨bf,af,rfl⟩:=aP;obtain⟨u,I,aa⟩:=abe h (h.aZ (U x (by simp[Op.operands])) an) (h.aZ (U k (by simp[Op.operands])) aj) af o.dst ah;exact gZ (v:=u) (w':=w) (by simp only[execOp,au,Sem.run_bind,I,Result.andThen_ok,Sem.run_pure]) (dA _ _ aa)
 |mapUpdate t m k v=>
  rw[au]at aP U;simp only[aA]at aP;obtain⟨aX,hu,rfl⟩:=aP;obtain⟨w',bS,cF,ck,dG⟩:=QE h (U m (by simp[Op.operands])) (U k (by simp[Op.operands])) (U v (by simp[Op.operands])) hu;exact CI (by simp only[execOp,au,Sem.run_bind,cF,Result.andThen_ok,Sem.run_pure]) (dA _ _ (vR ck o.dst ah dG))
 |insert t m k v=>
  rw[au]at aP U;simp only[aA]at aP;obtain⟨aX,hu,rfl⟩:=aP;obtain⟨w',bS,cF,ck,dG⟩:=QE h (U m (by simp[Op.operands])) (U k (by simp[Op.operands])) (U v (by simp[Op.operands])) hu;exact CI (by simp only[execOp,au,Sem.run_bind,cF,Result.andThen_ok,Sem.run_pure]) (dA _ _ (vR ck o.dst ah dG))
 |extract x i=>
  rw[au]at aP U;cases x with
  |tmp t=>
   simp only at aP
   split at aP
   .rename_i az ak;simp only[aA]at aP;obtain⟨d,NC,rfl⟩:=aP;obtain⟨u,I,aa⟩:=ZX h (U (.tmp t) (by simp[Op.operands]) t rfl) ak NC;exact gZ (v:=u) (w':=w) (by simp only[execOp,au,Sem.run_bind,I E.P,Result.andThen_ok,Sem.run_pure]) (dA _ _ (ih h aa o.dst ah))
   .cases aP
  |_=>cases aP
 |call c=>
  rw[au]at aP U;simp only at aP;have iC:∀x∈c.args.toList,Fits n x:=λx gJ=>U x (by simp[Op.operands,Call.operands];right;simpa using gJ);cases ad:c.callee with
  |invoke=>rw[ad]at aP;cases aP
  |value x=>
   rw[ad]at aP;simp only at aP;cases an:aZ E F x with
   |none=>simp[an]at aP
   |some d=>
    cases d with
    |fn g ey=>
     simp only[an,X3]at aP;obtain⟨⟨r,jf⟩,db,aP⟩:=aP;simp only[aA]at aP;obtain⟨k7,oL,rfl⟩:=aP;have WX:Fits n x:=U x (by simp[Op.operands,Call.operands,ad]);have av:=h.aZ WX an;obtain⟨iB,Ib,kr⟩:=av;rw[kr.length]at db;have:=ab0 cn ef h WX (λy aw=>by
      simp only[gF,a6,ba,Arg.gK.injEq,exists_eq_right,reduceCtorEq,and_false,exists_false,or_false]at aw
      exact iC y aw) db Ib
     rw[abz]at this;unfold Oper.wp;have yU:(execOp a.eval o).run E.P w=(callFunc g (c.args.toList.map a.eval++iB).toArray).run E.P w:=by
      simp only[execOp,au,resolve,ad,Ib,Deferred.ofValue,Sem.run_bind,Sem.run_pure,Result.andThen_ok,invoke];congr 2;apply hq;simp
     rw[yU];unfold oA at this
     split at this
     .rename_i fG vs w' gA;rw[gA];show Calls E.P fG vs w' _;refine Calls.mono this ?_;rintro e amL ⟨M',bS,t,rfl,t1,t2,t3,t4,t5⟩;rw[<-t1]at oL;exact dA _ _ (QV t4 t2 t3 o.dst ah oL t5)
     .rename_i v w' gA;rw[gA];obtain⟨M',bS,t,av,t1,t2,t3,t4,t5⟩:=this;cases av;rw[<-t1]at oL;exact dA _ _ (QV t4 t2 t3 o.dst ah oL t5)
     .exact this.elim
    |_=>simp[an]at aP
  |builtin b=>
   rw[ad]at aP;simp only at aP;have yU:∀u w',(builtin b c.argTypes o.type (c.args.map fun| .const _=>true|_=>false) (c.args.map a.eval)).run E.P w=.ok (.value u) w'->(execOp a.eval o).run E.P w=.ok (.value u) w':=λu w' ag=>by
    simp only[execOp,au,resolve,ad,Sem.run_bind,Sem.run_pure,Result.andThen_ok,invoke];exact ag
   unfold nU at aP;have arr:∀{O:Type}{a:Array O}{l:List O},a.toList=l->a=l.toArray:=λhl=>by rw[<-hl]
   split at aP
   .rename_i x t ts eS lu;cases an:aZ E F x with
    |none=>simp[an]at aP
    |some d=>
     simp only[an,aA]at aP;obtain⟨bf,hl,rfl⟩:=aP;obtain⟨u,I,aa⟩:=adU h (ty:=o.type) (ts:=ts) (h.aZ (iC x (by rw[eS];simp)) an) hl;refine gZ (v:=u) (w':=w) (yU u w ?_) (dA _ _ (ih h aa o.dst ah));rw[arr eS,arr lu];simp only[builtin,q8,bL,fR,Sem.run_bind,I,Result.andThen_ok,Sem.run_pure]
   .rename_i x y t u eS lu
    split at aP
    .rename_i hu;obtain⟨v,w',I,aa⟩:=aaG h (t:=t) (u:=u) (ty:=o.type) (iC x (by rw[eS];simp)) (iC y (by rw[eS];simp)) hu o.dst ah aP;refine gZ (v:=v) (w':=w') (yU v w' ?_) (dA _ _ aa);rw[arr eS,arr lu];simp only[builtin,q8,bL,fR,Sem.run_bind,I,Result.andThen_ok,Sem.run_pure]
    .cases aP
   .rename_i x y eS;cases an:aZ E F x with
    |none=>simp[an]at aP
    |some d1=>
     cases g9:aZ E F y with
     |none=>simp[an,g9]at aP
     |some d2=>
      simp only[an,g9,aA]at aP;obtain⟨d,hi,rfl⟩:=aP;obtain⟨k,p,q,aT,a5,rfl⟩:=Sp (h.aZ (iC x (by rw[eS];simp)) an) (h.aZ (iC y (by rw[eS];simp)) g9) hi;refine gZ (v:=.int k (if q > p then q else p)) (w':=w) (yU _ w ?_) (dA _ _ (ih h (lM rfl) o.dst ah));rw[arr eS];simp only[builtin,q8,bL,fR,aT,a5,Builtin.max_,XR,XT,Builtin.max2,Sem.run_bind,Result.andThen_ok,Sem.run_pure]
   .rename_i x y eS;cases an:aZ E F x with
    |none=>simp[an]at aP
    |some d1=>
     cases g9:aZ E F y with
     |none=>simp[an,g9]at aP
     |some d2=>
      simp only[an,g9,aA]at aP;obtain⟨d,hi,rfl⟩:=aP;obtain⟨k,p,q,aT,a5,rfl⟩:=Sp (h.aZ (iC x (by rw[eS];simp)) an) (h.aZ (iC y (by rw[eS];simp)) g9) hi;refine gZ (v:=.int k (if q<p then q else p)) (w':=w) (yU _ w ?_) (dA _ _ (ih h (lM rfl) o.dst ah));rw[arr eS];simp only[builtin,q8,bL,fR,aT,a5,Builtin.min_,XR,XT,Builtin.min2,Sem.run_bind,Result.andThen_ok,Sem.run_pure]
   .rename_i x t ts eS lu
    split at aP
    case h_2=>cases aP
    rename_i s ps off len e an ae
    split at aP
    case h_2=>cases aP
    rename_i es z ak aG
    split at aP
    case isFalse=>cases aP
    rename_i H9;simp only[aA]at aP;obtain⟨aX,qO,rfl⟩:=aP;obtain⟨w',I,aa⟩:=ab2 h ae (h.aZ (iC x (by rw[eS];simp)) an) ak aG H9.1 H9.2.1 H9.2.2.2 H9.2.2.1 qO o.dst ah (ty:=o.type) (ts:=ts);refine gZ (v:=.tuple #[]) (w':=w') (yU _ w' ?_) (dA _ _ aa);rw[arr eS,arr lu];simp only[builtin,q8,bL,fR,Sem.run_bind,I,Result.andThen_ok,Sem.run_pure]
   .cases aP
 |_=>rw[au]at aP;cases aP
end
end Go.aS
