/- An interpreter of function bodies, sound. No conditions. -/
import Derived.Carry
import Derived.OpenShut
import Derived.Lib.Strings
import Derived.Test.YtmiedlcblpiemaaGreatDoorOwn31
import Derived.Test.YtmiedlcblpiemaaGreatDoorOwn17
import Derived.Test.YtmiedlcblpiemaaGreatDoorOwn28
set_option linter.all false
open List renaming getElem?_eq_getElem->zA,append_nil->zC,take_length->zG,map_cons->zH,sum_cons->zI,flatten_append->zK,mem_singleton->zL,zip_cons_cons->zM,map_map->zN,length_range->zO,cons_append->zP,mem_append->zR
open Nat renaming le_refl->zB,zero_le->zF
open Option renaming map_eq_some_iff->zD,map_some->zQ
open Bool renaming and_eq_true->zE
open List.cons renaming injEq->zS
namespace Go.Own
open D
def Dec{O:Type}(R:List D->Prop)(ok:O->Prop)(e:Enc O):Prop:=∀ds,R ds->∃x,ok x/\ds=e x
def okI(q:IntKind)(n:Int):Prop:=q.min<=n/\n<=q.max
def okL{O:Type}(ok:O->Prop)(l:List O):Prop:=l.length<=maxLen/\∀x∈l,ok x
section
variable{P:Program}{k t e n:Nat}{O:Type}{ok:O->Prop}{ee:Enc O}
theorem Amy{q:IntKind}(h:P.underlying t=some (.int q)):Dec (Ty P (k+1) t) (okI q) (eI q):=fun ds hd=>by
 simp only[Ty,h]at hd;obtain⟨n,h1,rfl⟩:=hd;refine⟨n,?_,rfl⟩;simpa[Lit.wf,okI]using h1
theorem Azb{R:List D->Prop}(h:Dec R ok ee):∀{es:List (List D)},(∀x∈es,R x)->∃l:List O,(∀x∈l,ok x)/\es=l.map ee
 |[],_=>⟨[],by simp,rfl⟩
 |c::es,hr=>by
  obtain⟨x,h1,rfl⟩:=h c (hr c (by simp));obtain⟨l,h2,rfl⟩:=Azb h (es:=es) (fun y hy=>hr y (by simp[hy]));exact⟨x::l,by simpa using⟨h1,h2⟩,rfl⟩
theorem Awq(h:P.underlying t=some (.slice e))(hd:Dec (Ty P k e) ok ee):Dec (Ty P (k+1) t) (okL ok) (eSl ee):=fun ds hs=>by
 simp only[Ty,h]at hs;obtain⟨es,h1,rfl,h2⟩:=hs;obtain⟨l,h3,rfl⟩:=Azb hd h2;exact⟨l,⟨by simpa using h1,h3⟩,rfl⟩
def TyTs(R:TypeId->List D->Prop):List TypeId->List D->Prop
 |[],ds=>ds=[]
 |t::ts,ds=>∃a b,ds=a++b/\R t a/\TyTs R ts b
theorem Bcw{R:TypeId->List D->Prop}:∀{fs:List Field}{ds:List D},TyFs R fs ds->TyTs R (fs.map (·.type)) ds
 |[],_,h=>h
 |f::fs,ds,h=>by
  obtain⟨a,b,h1,h2,h3⟩:=h;exact⟨a,b,h1,h2,Bcw h3⟩
def Alj(P:Program)(t:Nat):Option (List TypeId):=match P.underlying t with
 |some (.struct fs)=>some (fs.toList.map (·.type))
 |_=>none
theorem Aql{ts:List TypeId}{ds:List D}(h:Alj P t=some ts)(hd:Ty P (k+1) t ds):TyTs (Ty P k) ts ds:=by
 unfold Alj at h
 split at h
 .rename_i fs hu;simp only[zJ]at h;subst h;simp only[Ty,hu]at hd;exact Bcw hd
 .cases h
theorem Biz{ds:List D}(h:arrayT P t=some (n,e))(hd:Ty P (k+1) t ds):∃ps:List (List D),ds=ps.flatten/\ps.length=n/\∀x∈ps,Ty P k e x:=by
 unfold arrayT at h
 split at h
 .rename_i m e' hu;simp only[zJ,Prod.mk.injEq]at h;obtain⟨rfl,rfl⟩:=h;simp only[Ty,hu]at hd;exact hd
 .cases h
theorem Bcv{d:D}(h:isAggT P t=true)(hd:TyA P k t d):∃ds,d=.agg ds/\Ty P k t ds:=by
 unfold isAggT at h;unfold TyA at hd
 split at h
 .rename_i hu;rw[hu]at hd;exact hd
 .rename_i hu;rw[hu]at hd;exact hd
 .cases h
end
end Go.Own

namespace Go.Own
open D Go.ChangeShapes Go.RowKit Go.WideShapes
theorem Axs{H:Type}{enc:TypeId×Value->H}{P:Program}(hl:laidOutB P=true){W W':World}(hb:Below W.heap.size W W'){sp:Nat->Bool}:
  ∀(ts:List TypeId)(vs:List Value)(ds:List (DataW H))(ps:List MemPlace),(∀t∈ts,P.readableRec t=true/\t<P.types.size)->DataW.TrodAll enc P W 0 (fun _=>true) true ts vs ds ps ->
   (∀p∈ps,p.block<W.heap.size)->(∀p∈ps,sp p.block=true)->DataW.TrodAll enc P W' 0 sp true ts vs ds ps
 |[],vs,ds,ps,_,h,_,_=>by
  obtain⟨rfl,rfl,rfl⟩:=trodAll_nil h;exact rfl
 |t::ts,vs,ds,ps,ht,h,hlt,hsp=>by
  obtain⟨v,vs',d,ds',p,q,rfl,rfl,rfl,h1,h2⟩:=trodAll_cons h;exact trodAll_cons_mk (WideElems.Trod_stays hl (ht t (by simp)).1 (ht t (by simp)).2 h1 (fun x hx=>hb.same (hlt x (by simp[hx]))) (fun x hx=>hsp x (by simp[hx])))
   (Axs hl hb ts vs' ds' q (fun t h=>ht t (by simp[h])) h2 (fun p hp=>hlt p (by simp[hp])) (fun p hp=>hsp p (by simp[hp])))
end Go.Own
namespace Go.Own
open D Go.ChangeShapes Go.RowKit Go.WideShapes
mutual
def wt:D->Nat
 | .lit (.string s)=>s.size
 | .sl es=>wtLL es
 | .agg ds=>wtL ds
 |_=>0
def wtL:List D->Nat
 |[]=>0
 |d::r=>wt d+wtL r
def wtLL:List (List D)->Nat
 |[]=>0
 |x::r=>wtL x+1+wtLL r
end
theorem wtL_append:∀{a b:List D},wtL (a++b)=wtL a+wtL b
 |[],b=>by simp[wtL]
 |d::a,b=>by simp only[zP,wtL];rw[wtL_append];omega
theorem wtLL_append:∀{a b:List (List D)},wtLL (a++b)=wtLL a+wtLL b
 |[],b=>by simp[wtLL]
 |d::a,b=>by simp only[zP,wtLL];rw[wtLL_append];omega
structure Bulk(H:Type) where
 B:DataW H->Nat
 one:∀d,1<=B d
 str:∀bytes,bytes.length+1<=B (.lit (.string bytes))
 slice:∀es sp,(es.map B).sum+1<=B (.slice es sp)
 agg:∀ps,(ps.map B).sum+1<=B (.agg ps)
def sumTo(c:Nat->Nat):Nat->Nat
 |0=>0
 |n+1=>sumTo c n+c n
theorem sumTo_list{O:Type}(f:O->Nat)(ys:List O):∀n,n<=ys.length->sumTo (fun i=>((ys[i]?).map f).getD 0) n=((ys.take n).map f).sum
 |0,_=>by simp[sumTo]
 |n+1,h=>by
  have hy:ys[n]?=some ys[n]:=zA (by omega);show sumTo _ n+((ys[n]?).map f).getD 0=_;rw[sumTo_list f ys n (by omega),List.take_add_one,hy,List.map_append,List.sum_append];simp only[zQ,Option.getD_some,Option.toList_some,zH,List.map_nil,zI,List.sum_nil,Nat.add_zero]
theorem wt_str{H:Type}(bk:Bulk H)(s:ByteArray):wtL [.lit (.string s)]+1<=bk.B (.lit (.string s.data.toList)):=by
 have:=bk.str s.data.toList;rw[<-Lib.size_eq]at this;show s.size+0+1<=_;omega
theorem slice_buildB{w:World}{g b K:Nat}{M:Mem}{R:List D->Prop}{c:Nat->Nat}:∀(n:Nat),(∀i,i<n->∃ds vs,vs.length=K/\Seg w g (b+i*K) vs/\RCs M ds vs/\R ds/\wtL ds+1<=c i) ->
  ∃es vs,es.length=n/\vs.length=n*K/\Seg w g b vs/\REs M es vs/\(∀x∈es,R x/\x.length=K)/\wtLL es<=sumTo c n
 |0,_=>⟨[],[],rfl,by simp,fun j u hu=>by simp at hu,rfl,(fun x hx=>by cases hx),zB _⟩
 |n+1,h=>by
  obtain⟨es,vs,h1,h2,h3,h4,h5,h6⟩:=slice_buildB n fun i hi=>h i (by omega);obtain⟨ds,us,k1,k2,k3,k4,k5⟩:=h n (by omega);refine⟨es++[ds],vs++us,by simp[h1],by rw[List.length_append,h2,k1,Nat.succ_mul],h3.append (by rw[h2];exact k2),Ayq h4 k3,(fun x hx=>?_),by rw[wtLL_append,sumTo];simp only[wtLL];omega⟩;rcases zR.1 hx with hx|hx
  .exact h5 x hx
  .obtain rfl:=zL.1 hx;exact⟨k4,by rw[<-RCs.length k3,k1]⟩
theorem array_buildB{M:Mem}{K:Nat}{R:List D->Prop}{cs:List Value}{c:Nat->Nat}:∀(n:Nat),(∀i,i<n->∃ds,RCs M ds ((cs.drop (i*K)).take K)/\R ds/\wtL ds+1<=c i) ->
  ∃ps:List (List D),ps.length=n/\RCs M ps.flatten (cs.take (n*K))/\(∀x∈ps,R x)/\wtL ps.flatten<=sumTo c n
 |0,_=>⟨[],rfl,by simp[RCs],(fun x hx=>by cases hx),zB _⟩
 |n+1,h=>by
  obtain⟨ps,h1,h2,h3,h4⟩:=array_buildB n fun i hi=>h i (by omega);obtain⟨ds,k1,k2,k3⟩:=h n (by omega);refine⟨ps++[ds],by simp[h1],?_,(fun x hx=>?_),by rw[zK,wtL_append,sumTo];simp only[List.flatten_cons,List.flatten_nil,zC];omega⟩
  .rw [zK,Nat.succ_mul,List.take_add];exact Anm h2 (by simpa using k1)
  .rcases zR.1 hx with hx|hx
   .exact h3 x hx
   .obtain rfl:=zL.1 hx;exact k2
theorem fields_buildB{P:Program}{M:Mem}{R:TypeId->List D->Prop}{cs:List Value}:∀(fs:List Field)(ws:List Nat)(o:Nat),Akx P.cellsOf fs o cs.length=true->ws.length=fs.length ->
  (∀p∈fs.zip ws,∃ds,RCs M ds ((cs.drop p.1.offset).take (P.cellsOf p.1.type))/\R p.1.type ds/\wtL ds+1<=p.2)->∃ds,RCs M ds (cs.drop o)/\TyFs R fs ds/\wtL ds<=ws.sum
 |[],[],o,h,_,_=>by
  simp only[Akx,beq_iff_eq]at h;exact⟨[],by simp[RCs,h],rfl,zF _⟩
 |[],w::ws,o,_,hl,_=>by simp at hl
 |f::fs,[],o,_,hl,_=>by simp at hl
 |f::fs,w::ws,o,h,hl,k=>by
  simp only[Akx,zE,beq_iff_eq]at h;obtain⟨ds,h1,h2,h3⟩:=fields_buildB fs ws _ h.2 (by simpa using hl) fun g hg=>k g (by simp[zM,hg]);obtain⟨es,k1,k2,k3⟩:=k (f,w) (by simp[zM]);rw[h.1]at k1;refine⟨es++ds,?_,⟨es,ds,rfl,k2,h2⟩,by rw[wtL_append,zI];omega⟩;have:=Anm k1 (v:=(cs.drop o).drop (P.cellsOf f.type)) (b:=ds) (by rw[List.drop_drop];exact h1)
  rwa [List.take_append_drop]at this
theorem lift_trodB{H:Type}{enc:TypeId×Value->H}{P:Program}{w:World}{base:Nat}{sp:Nat->Bool}{held:Bool}(bk:Bulk H):
  ∀(k fuel:Nat)(t:TypeId)(cs:List Value)(x:DataW H×List MemPlace),Ael P k t=true->DataW.trod enc P w base sp held fuel t cs=some x ->
   ∃ds,RCs (fun g=>w.heap[g]?) ds cs/\Ty P k t ds/\wtL ds+1<=bk.B x.1
 |0,_,_,_,_,h,_=>by simp[Ael]at h
 |k+1,0,t,cs,x,_,h=>by simp[DataW.trod]at h
 |k+1,fuel+1,t,cs,x,h,hd=>by
  unfold DataW.trod at hd;cases hu:P.underlying t with
  |none=>simp[Ael,hu]at h
  |some ty=>
   rw[hu]at hd;simp only[Ty,hu];cases ty with
   |bool=>
    split at hd<;>first|cases hd;done|(rename_i he;cases he)
    exact⟨[.lit _],⟨_,[],rfl,⟨rfl,rfl⟩,rfl⟩,⟨_,rfl⟩,bk.one _⟩
   |int q=>
    split at hd<;>first|cases hd;done|(rename_i he;cases he)
    split at hd
    .rename_i hq;rw[hq.1];exact⟨[.lit _],⟨_,[],rfl,⟨rfl,rfl⟩,rfl⟩,⟨_,hq.2,rfl⟩,bk.one _⟩
    .cases hd
   |string=>
    split at hd<;>first|cases hd;done|(rename_i he;cases he)
    split at hd
    .rename_i hq;exact⟨[.lit _],⟨_,[],rfl,⟨rfl,rfl⟩,rfl⟩,⟨_,hq,rfl⟩,by cases hd;exact wt_str bk _⟩
    .cases hd
   |slice e=>
    simp only[Ael,hu,zE,decide_eq_true_eq]at h
    split at hd<;>first|cases hd;done|(rename_i he;cases he)
    .exact ⟨[.sl []],⟨_,[],rfl,⟨none,0,0,rfl,rfl,zB _,zF _,.inl rfl⟩,rfl⟩,⟨[],zF _,rfl,fun x hx=>by cases hx⟩,bk.one _⟩
    .rename_i a len cap;simp only at hd
     split at hd
     .rename_i hb;cases hm:(List.range len).mapM (fun i=>(w.cells? base (a.add (i*P.cellsOf e)) (P.cellsOf e)).bind (DataW.trod enc P w base sp held fuel e))with
      |none=>rw[hm]at hd;cases hd
      |some ys=>
       have hl:=mapM_some_length hm;rw[zO]at hl;have hi:∀i,i<len->∃y vs,w.cells? base (a.add (i*P.cellsOf e)) (P.cellsOf e)=some vs/\DataW.trod enc P w base sp held fuel e vs=some y/\ys[i]?=some y:=by
        intro i hi;have:=mapM_some_get hm i i (by simp[hi]);rw[zA (by omega)]at this;obtain⟨vs,h1,h2⟩:=Option.bind_eq_some_iff.1 this;exact⟨_,vs,h1,h2,zA (by omega)⟩
       rcases Nat.eq_zero_or_pos len with h0|h0
       .subst h0;exact⟨[.sl []],⟨_,[],rfl,⟨some a,0,cap,rfl,rfl,hb.2.1,zF _,.inl rfl⟩,rfl⟩,⟨[],zF _,rfl,fun x hx=>by cases hx⟩,bk.one _⟩
       .have hs:a.spot=none:=by
         obtain⟨y,vs,h1,_⟩:=hi 0 h0;obtain⟨m,hm⟩:∃m,P.cellsOf e=m+1:=⟨P.cellsOf e-1,by omega⟩
         rw[Nat.zero_mul,hm]at h1;exact Bdc h1
        obtain⟨es,vs,k1,k2,k3,k4,k5,k6⟩:=slice_buildB (w:=w) (g:=a.block) (b:=a.off) (K:=P.cellsOf e) (M:=fun g=>w.heap[g]?) (R:=Ty P k e) (c:=fun i=>((ys[i]?).map fun y=>bk.B y.1).getD 0) len fun i hl=>by
         obtain⟨y,vs,h1,h2,hy⟩:=hi i hl;rw[Bh4 hs]at h1;obtain⟨j1,j2⟩:=Bf7 h1 rfl;obtain⟨ds,r1,r2,r3⟩:=lift_trodB bk k fuel e vs y h.2 h2;exact⟨ds,vs,j1,j2,r1,r2,by rw[hy];exact r3⟩
        have hv:vs≠[]:=by
         intro hv;rw[hv]at k2;have:0<len*P.cellsOf e:=Nat.mul_pos h0 h.1;simp at k2;omega
        have hlen:len<=maxLen:=Nat.le_trans hb.2.1 hb.2.2;refine⟨[.sl es],⟨_,[],rfl,⟨some a,len,cap,rfl,k1.symm,hb.2.1,hlen,.inr ⟨a.block,a.off,P.cellsOf e,vs,?_,k3.at hv,h.1,fun x hx=>(k5 x hx).2,k4⟩⟩,rfl⟩,⟨es,by omega,rfl,fun x hx=>(k5 x hx).1⟩,?_⟩
        .cases a;simp_all
        .rw [hm,Option.bind_some]at hd;obtain⟨rest,_,hx⟩:=zD.1 hd;subst hx;have hsum:=sumTo_list (fun y=>bk.B y.1) ys ys.length (zB _);rw[zG,hl]at hsum;have hbk:=bk.slice (ys.map (·.1)) (rest.map (·.1));rw[zN]at hbk;have e1:(ys.map (bk.B ∘ fun y=>y.1)).sum=(ys.map fun y=>bk.B y.1).sum:=rfl;show wt (.sl es)+0+1<=bk.B (.slice (ys.map (·.1)) (rest.map (·.1)));simp only[wt];omega
     .cases hd
   |struct fs=>
    simp only[Ael,hu,zE,List.all_eq_true]at h
    split at hd<;>first|(rename_i he;cases he;done)|(rename_i he;cases he)|(exfalso;simp_all;done)
    split at hd
    .rename_i hc;rw[<-hc]at h;obtain⟨xs,hm,hx⟩:=zD.1 hd;subst hx;have hlx:=mapM_some_length hm;obtain⟨ds,h1,h2,h3⟩:=fields_buildB (P:=P) (M:=fun g=>w.heap[g]?) (R:=Ty P k) fs.toList (xs.map fun y=>bk.B y.1) 0 h.1 (by rw[List.length_map];omega) fun p hp=>by
      obtain⟨i,hi⟩:=List.getElem?_of_mem hp;obtain⟨hi1,hi2⟩:=List.getElem?_zip_eq_some.1 hi;have hlt:=(List.getElem?_eq_some_iff.1 hi1).1;have:=mapM_some_get hm i p.1 hi1;rw[zA (by omega)]at this;obtain⟨ds,r1,r2,r3⟩:=lift_trodB bk k fuel p.1.type _ _ (h.2 p.1 (List.mem_of_getElem? hi1)) this;rw[List.getElem?_map,zA (by omega),zQ]at hi2;exact⟨ds,r1,r2,by rw[<-Option.some.inj hi2];exact r3⟩
     have hbk:=bk.agg (xs.map (·.1));rw[zN]at hbk;have e1:(xs.map (bk.B ∘ fun y=>y.1)).sum=(xs.map fun y=>bk.B y.1).sum:=rfl;exact⟨ds,h1,h2,by show wtL ds+1<=bk.B (.agg (xs.map (·.1)));omega⟩
    .cases hd
   |array n e=>
    simp only[Ael,hu,zE,beq_iff_eq]at h
    split at hd<;>first|(rename_i he;cases he;done)|(rename_i he;cases he)|(exfalso;simp_all;done)
    split at hd
    .rename_i hc;obtain⟨xs,hm,hx⟩:=zD.1 hd;subst hx;have hl:=mapM_some_length hm;rw[zO]at hl;obtain⟨ps,h1,h2,h3,h4⟩:=array_buildB (c:=fun i=>((xs[i]?).map fun y=>bk.B y.1).getD 0) (M:=fun g=>w.heap[g]?) (K:=P.cellsOf e) (R:=Ty P k e) n fun i hi=>by
      have:=mapM_some_get hm i i (by simp[hi]);rw[zA (by omega)]at this;obtain⟨ds,r1,r2,r3⟩:=lift_trodB bk k fuel e _ _ h.2 this;exact⟨ds,r1,r2,by rw[zA (by omega)];exact r3⟩
     rw[h.1,<-hc,zG]at h2;have hsum:=sumTo_list (fun y=>bk.B y.1) xs xs.length (zB _);rw[zG,hl]at hsum;have hbk:=bk.agg (xs.map (·.1));rw[zN]at hbk;have e1:(xs.map (bk.B ∘ fun y=>y.1)).sum=(xs.map fun y=>bk.B y.1).sum:=rfl;exact⟨_,h2,⟨ps,rfl,h1,h3⟩,by show wtL ps.flatten+1<=bk.B (.agg (xs.map (·.1)));omega⟩
    .cases hd
   |_=>simp[Ael,hu]at h
theorem lift_argB{H:Type}{enc:TypeId×Value->H}{P:Program}{w:World}{base b0:Nat}{r:Reach}{sp:Nat->Bool}{held:Bool}{k:Nat}{t:TypeId}{v:Value}{d:DataW H}{ps:List MemPlace}
  (bk:Bulk H) (hp:Ael P k t=true) (hval:Value.okWide P w r b0 t v) (hd:DataW.Trod enc P w base sp held t v d ps):
  ∃tr:T,tr.val=v/\tr.tidy/\Giv (fun g=>w.heap[g]?) tr/\tr.blocks=[]/\TyA P k t tr.erase/\wt tr.erase+1<=bk.B d:=by
 obtain⟨fuel,hf⟩:=hd;obtain⟨ds,h1,h2,h3⟩:=lift_trodB bk k fuel t _ _ hp hf;have agg:(∃cs,v=.agg cs)->∃tr:T,tr.val=v/\tr.tidy/\Giv (fun g=>w.heap[g]?) tr/\tr.blocks=[]/\tr.erase=.agg ds:=by
  rintro⟨cs,rfl⟩;obtain⟨ts,b1,b2,b3,b4,b5⟩:=Ag1 h1;refine⟨.agg ts,?_,b3,b4,?_,?_⟩
  .simp [T.val,b2,Value.cells]
  .simp only[T.blocks,T.blocksC_eq,List.flatMap_eq_nil_iff];exact b5
  .simp only[T.erase,T.eraseC_eq,b1]
 have one:(∀cs,v≠.agg cs)->∃d,ds=[d]/\∃tr:T,tr.val=v/\tr.tidy/\Giv (fun g=>w.heap[g]?) tr/\tr.blocks=[]/\tr.erase=d:=by
  intro hv;have hc:v.cells.toList=[v]:=by cases v<;>first|rfl|exact absurd rfl (hv _)
  rw[hc]at h1;have hl:=RCs.length h1
  match ds,hl,h1 with
  |[d],_,h1=>
   obtain⟨ts,b1,b2,b3,b4,b5⟩:=Ag1 h1
   match ts,b1 with
   |[tr],b1=>
    simp only[zH,List.map_nil,zS,and_true]at b1;simp only[T.vals,zS,and_true]at b2;refine⟨d,rfl,tr,b2,b3.1,?_,b5 tr (by simp),b1⟩;obtain⟨_,_,e1,e2,_⟩:=h1;have hr:RI (fun g=>w.heap[g]?) d v:=by cases e1;exact e2
    refine Afz b4.1 ?_;rw[b1];rintro rfl;simp[RI]at hr
 unfold TyA;cases hu:P.underlying t with
 |none=>simp only[Value.okWide,hu,Cell.okWide,Cell.ok]at hval
 |some ty=>
  cases ty with
  |struct fs=>
   simp only[Value.okWide,hu]at hval;obtain⟨cs,hv,_⟩:=hval;obtain⟨tr,a,b,c,e,f⟩:=agg ⟨cs,hv⟩;exact⟨tr,a,b,c,e,⟨ds,f,h2⟩,by rw[f];exact h3⟩
  |array n e=>
   simp only[Value.okWide,hu]at hval;obtain⟨cs,hv,_⟩:=hval;obtain⟨tr,a,b,c,e,f⟩:=agg ⟨cs,hv⟩;exact⟨tr,a,b,c,e,⟨ds,f,h2⟩,by rw[f];exact h3⟩
  |_=>
   obtain⟨d',rfl,tr,a,b,c,e,rfl⟩:=one fun cs hv=>by
    subst hv
    first
     |(simp only[Value.okWide,hu,Cell.okWide,Cell.ok]at hval;done)
     |(simp only[Value.okWide,hu,Cell.okWide,Cell.ok]at hval;exact hval)
   exact⟨tr,a,b,c,e,h2,by simpa[wtL]using h3⟩
theorem lift_argsB{H:Type}{enc:TypeId×Value->H}{P:Program}{w:World}{base b0:Nat}{r:Reach}{sp:Nat->Bool}{held:Bool}{k:Nat}(bk:Bulk H):
  ∀(ts:List TypeId)(vs:List Value)(ds:List (DataW H))(ps:List MemPlace),(∀t∈ts,Ael P k t=true)->DataW.TrodAll enc P w base sp held ts vs ds ps ->
   (∀(j:Nat) t v,ts[j]?=some t->vs[j]?=some v->Value.okWide P w r b0 t v) ->
   ∃trs:List T,T.vals trs=vs/\(∀t∈trs,t.tidy/\Giv (fun g=>w.heap[g]?) t)/\T.blocksC trs=[]/\Anp P k ts (trs.map T.erase)/\wtL (trs.map T.erase)<=(ds.map bk.B).sum
 |[],vs,ds,ps,_,h,_=>by
  obtain⟨rfl,rfl,rfl⟩:=trodAll_nil h;exact⟨[],rfl,by simp,rfl,rfl,zB _⟩
 |t::ts,vs,ds,ps,hp,h,hv=>by
  obtain⟨v,vs',d,ds',p,q,rfl,rfl,rfl,h1,h2⟩:=trodAll_cons h;obtain⟨tr,a1,a2,a3,a4,a5,a6⟩:=lift_argB bk (hp t (by simp)) (hv 0 t v rfl rfl) h1;obtain⟨trs,b1,b2,b3,b4,b5⟩:=lift_argsB bk ts vs' ds' q (fun t ht=>hp t (by simp[ht])) h2 (fun j t v h3 h4=>hv (j+1) t v (by simpa using h3) (by simpa using h4));refine⟨tr::trs,by simp[T.vals,a1,b1],?_,by simp[T.blocksC,a4,b3],⟨_,_,rfl,a5,b4⟩,by simp only[zH,zI,wtL];omega⟩;intro x hx;rcases List.mem_cons.1 hx with rfl|hx
  .exact ⟨a2,a3⟩
  .exact b2 x hx
theorem lift_callB{H:Type}{enc:TypeId×Value->H}{E:Env}(bk:Bulk H)(hE:EnvOK E){w:World}{base b0:Nat}{r:Reach}{sp:Nat->Bool}{held:Bool}{k f:Nat}{fd:Func}{c:Code}
  {ts:List TypeId} {args:Array Value} {ds:List (DataW H)} {ps:List MemPlace}
  (hf:E.P.funcs[f]?=some fd) (hn:E.prim f=none) (hb:fd.body=some c) (hmode:∀j,E.mode f j≠.inout)
  (hp:∀t∈ts,Ael E.P k t=true) (hd:DataW.TrodAll enc E.P w base sp held ts args.toList ds ps)
  (hv:∀(j:Nat) t v,ts[j]?=some t->args[j]?=some v->Value.okWide E.P w r b0 t v)
  (hgd:Good E (fun g=>w.heap[g]?)) (contract:∀xs,Anp E.P k ts xs->wtL xs<=(ds.map bk.B).sum->Ret E f xs (.lit (.bool true)) []):
  Calls E.P f args w fun e w'=>e=.returned (.bool true)/\Below w.heap.size w w':=by
 obtain⟨trs,h1,h2,h3,h4,h5⟩:=lift_argsB bk ts args.toList ds ps hp hd (fun j t v a b=>hv j t v a (by simpa using b));obtain⟨n,hn'⟩:=contract _ h4 h5;have hok:=Az6 hE n f _ _ _ (hn' n (zB n)) (fun g=>w.heap[g]?) w trs rfl h2 (by rw[Arw trs 0 hmode];simp) (by rw[h3];exact BlkOK.nil _ _) (fun g o h=>h) hgd;rw[h1]at hok;unfold Does at hok;rw[Aqf hf (hE.name f fd hf hn) hb]at hok;refine Calls.mono hok fun e w' ⟨M',t,touts,he,ht,htd,hr,_,_,_,hB,hM,hev⟩=>?_;rw[h3]at hev;have htv:t.val=.bool true:=by
  cases t with
  |leaf d v=>
   simp only[T.erase]at ht;subst ht;have hr:RI M' (.lit (.bool true)) v:=hr;simp only[RI]at hr;exact hr.1
  |_=>simp[T.erase]at ht
 refine⟨by rw[he,htv],hev.os,hev.tape,hev.output,hev.size,fun g hg=>hev.out g hg (by simp[keys])⟩
theorem row_contractB{H:Type}{enc:TypeId×Value->H}{E:Env}(bk:Bulk H)(hE:EnvOK E){s:ChangeSpec}{k f:Nat}{fd:Func}{c:Code}{ts:List TypeId}{tb:TypeId}{base:Nat}
  {W:World} {args:Array Value} {ds gs:List (DataW H)} {before:List MemPlace}
  (hf:E.P.funcs[f]?=some fd) (hn:E.prim f=none) (hbd:fd.body=some c) (hmode:∀j,E.mode f j≠.inout) (hts:fd.params=ts.toArray) (hrt:fd.resultTypes=#[tb]) (htb:E.P.underlying tb=some .bool)
  (hp:∀t∈ts,Ael E.P k t=true) (hl:laidOutB E.P=true) (hread:∀t∈ts,E.P.readableRec t=true/\t<E.P.types.size)
  (hvs:s.vars=[]) (hfn:∀ds:List (DataW H),ds.length=ts.length->(s.fn H ds).results=[.lit (.bool true)]/\(s.fn H ds).args=ds/\(s.fn H ds).vars=[])
  (hval:∀(j:Nat) t v,fd.params[j]?=some t->args[j]?=some v->Value.okWide E.P W .any base t v)
  (hW:DataW.Whole enc E.P fd.params.toList s.vars false W args.toList ds gs before)
  (hgd:Good E (fun g=>W.heap[g]?)) (contract:∀xs,Anp E.P k ts xs->wtL xs<=(ds.map bk.B).sum->Ret E f xs (.lit (.bool true)) []):
  Calls E.P f args W fun e W'=>∃v,e=.returned v/\s.post enc E.P fd false true false false W args v W':=by
 have hlt:∀p∈before,p.block<W.heap.size:=fun p hp=>hW.lt p hp;have hW':=hW;obtain⟨p,q,hA,hV,rfl,hfz,hnd⟩:=hW;rw[hvs]at hV;have hgs:gs=[]/\q=[]:=by cases gs<;>simp[DataW.TrodVars]at hV;exact⟨rfl,hV⟩
 obtain⟨rfl,rfl⟩:=hgs;simp only[zC]at *;rw[hts]at hA hval;simp only[List.toList_toArray]at hA;have hcall:=lift_callB bk hE hf hn hbd hmode hp hA (fun j t v h1 h2=>hval j t v (by simpa using h1) h2) hgd contract;have hlen:ds.length=ts.length:=by
  have:∀(ts:List TypeId)(vs:List Value)(ds:List (DataW H))(p:List MemPlace),DataW.TrodAll enc E.P W 0 (fun _=>true) true ts vs ds p->ds.length=ts.length:=by
   intro ts
   induction ts with
   |nil=>intro vs ds p h;obtain⟨rfl,rfl,rfl⟩:=trodAll_nil h;rfl
   |cons t ts ih=>
    intro vs ds p h;obtain⟨v,vs',d,ds',p,q,rfl,rfl,rfl,h1,h2⟩:=trodAll_cons h;simp[ih _ _ _ h2]
  exact this _ _ _ _ hA
 obtain⟨e1,e2,e3⟩:=hfn ds hlen;refine hcall.mono fun e W' ⟨he,hb⟩=>⟨_,he,ds,[],p,[],p,[],hW',?_,?_,?_,World.keptBut_mono (fun x hx=>⟨hx,.inr (.inl hx)⟩) (hb.frame (·∈p)),fun h=>by cases h⟩
 .rw [zC,e1,hrt];exact trodAll_cons_mk (shut_bool htb _) rfl
 .rw [zC,e2,hts];exact Axs hl hb ts args.toList ds p hread hA hlt (fun x hx=>by simpa using hlt x hx)
 .rw [zC,e3,hvs];exact rfl
end Go.Own
