/- An interpreter of function bodies, sound. No conditions. -/
import Derived.Carry
import Derived.OpenShut
import Derived.Lib.Strings
import Derived.Test.YtcbhcnkfefbddaaGreatDoorOwn31
import Derived.Test.YtcbhcnkfefbddaaGreatDoorOwn16
import Derived.Test.YtcbhcnkfefbddaaGreatDoorOwn28
set_option linter.all false
open List renaming getElem?_eq_getElem->aA,append_nil->aQ,take_length->bB,map_cons->bL,sum_cons->b3,flatten_append->b5,mem_singleton->cc,zip_cons_cons->cu,map_map->cz,length_range->cx,cons_append->cD,mem_append->cT
open Nat renaming le_refl->aM,zero_le->bo
open Option renaming map_eq_some_iff->a6,map_some->cA
open Bool renaming and_eq_true->ba
open List.cons renaming injEq->c_
namespace Go.aS
open D
def yq{O:Type}(R:List D->Prop)(ok:O->Prop)(e:dE O):Prop:=∀az,R az->∃x,ok x/\az=e x
def BB(q:IntKind)(n:Int):Prop:=q.min<=n/\n<=q.max
def Pl{O:Type}(ok:O->Prop)(l:List O):Prop:=l.length<=maxLen/\∀x∈l,ok x
section
variable{P:Program}{k t e n:Nat}{O:Type}{ok:O->Prop}{HP:dE O}
theorem LG{q:IntKind}(h:P.underlying t=some (.int q)):yq (jE P (k+1) t) (BB q) (lk q):=λaz ah=>by
 simp only[jE,h]at ah;obtain⟨n,I,rfl⟩:=ah;refine⟨n,?_,rfl⟩;simpa[Lit.wf,BB]using I
theorem S_{R:List D->Prop}(h:yq R ok HP):∀{es:List (List D)},(∀x∈es,R x)->∃l:List O,(∀x∈l,ok x)/\es=l.map HP
 |[],_=>⟨[],by simp,rfl⟩
 |c::es,hr=>by
  obtain⟨x,I,rfl⟩:=h c (hr c (by simp));obtain⟨l,aa,rfl⟩:=S_ h (es:=es) (λy aw=>hr y (by simp[aw]));exact⟨x::l,by simpa using⟨I,aa⟩,rfl⟩
theorem Sa(h:P.underlying t=some (.slice e))(ah:yq (jE P k e) ok HP):yq (jE P (k+1) t) (Pl ok) (jG HP):=λaz ae=>by
 simp only[jE,h]at ae;obtain⟨es,I,rfl,aa⟩:=ae;obtain⟨l,aB,rfl⟩:=S_ ah aa;exact⟨l,⟨by simpa using I,aB⟩,rfl⟩
def AD(R:TypeId->List D->Prop):List TypeId->List D->Prop
 |[],az=>az=[]
 |t::ts,az=>∃a b,az=a++b/\R t a/\AD R ts b
theorem T6{R:TypeId->List D->Prop}:∀{fs:List Field}{az:List D},Hv R fs az->AD R (fs.map (·.type)) az
 |[],_,h=>h
 |f::fs,az,h=>by
  obtain⟨a,b,I,aa,aB⟩:=h;exact⟨a,b,I,aa,T6 aB⟩
def C2(P:Program)(t:Nat):Option (List TypeId):=match P.underlying t with
 |some (.struct fs)=>some (fs.toList.map (·.type))
 |_=>none
theorem KS{ts:List TypeId}{az:List D}(h:C2 P t=some ts)(ah:jE P (k+1) t az):AD (jE P k) ts az:=by
 unfold C2 at h
 split at h
 .rename_i fs hu;simp only[aE]at h;subst h;simp only[jE,hu]at ah;exact T6 ah
 .cases h
theorem T5{d:D}(h:h0 P t=true)(ah:DA P k t d):∃az,d=.agg az/\jE P k t az:=by
 unfold h0 at h;unfold DA at ah
 split at h
 .rename_i hu;rw[hu]at ah;exact ah
 .rename_i hu;rw[hu]at ah;exact ah
 .cases h
end
end Go.aS

namespace Go.aS
open D Go.ChangeShapes Go.RowKit Go.WideShapes
theorem SN{H:Type}{enc:TypeId×Value->H}{P:Program}(hl:laidOutB P=true){W sU:World}(ag:Below W.heap.size W sU){sp:Nat->Bool}:
  ∀(ts:List TypeId)(vs:List Value)(az:List (DataW H))(ps:List MemPlace),(∀t∈ts,P.readableRec t=true/\t<P.types.size)->DataW.TrodAll enc P W 0 (λ_=>true) true ts vs az ps ->
   (∀p∈ps,p.block<W.heap.size)->(∀p∈ps,sp p.block=true)->DataW.TrodAll enc P sU 0 sp true ts vs az ps
 |[],vs,az,ps,_,h,_,_=>by
  obtain⟨rfl,rfl,rfl⟩:=trodAll_nil h;exact rfl
 |t::ts,vs,az,ps,al,h,bU,oQ=>by
  obtain⟨v,k9,d,m9,p,q,rfl,rfl,rfl,I,aa⟩:=trodAll_cons h;exact trodAll_cons_mk (WideElems.Trod_stays hl (al t (by simp)).1 (al t (by simp)).2 I (λx U=>ag.same (bU x (by simp[U]))) (λx U=>oQ x (by simp[U])))
   (SN hl ag ts k9 m9 q (λt h=>al t (by simp[h])) aa (λp af=>bU p (by simp[af])) (λp af=>oQ p (by simp[af])))
end Go.aS
namespace Go.aS
open D Go.ChangeShapes Go.RowKit Go.WideShapes
mutual
def wt:D->Nat
 | .lit (.string s)=>s.size
 | .sl es=>ss es
 | .agg az=>jD az
 |_=>0
def jD:List D->Nat
 |[]=>0
 |d::r=>wt d+jD r
def ss:List (List D)->Nat
 |[]=>0
 |x::r=>jD x+1+ss r
end
theorem P3:∀{a b:List D},jD (a++b)=jD a+jD b
 |[],b=>by simp[jD]
 |d::a,b=>by simp only[cD,jD];rw[P3];omega
theorem XZ:∀{a b:List (List D)},ss (a++b)=ss a+ss b
 |[],b=>by simp[ss]
 |d::a,b=>by simp only[cD,ss];rw[XZ];omega
structure yo(H:Type) where
 B:DataW H->Nat
 one:∀d,1<=B d
 str:∀bytes,bytes.length+1<=B (.lit (.string bytes))
 slice:∀es sp,(es.map B).sum+1<=B (.slice es sp)
 agg:∀ps,(ps.map B).sum+1<=B (.agg ps)
def xH(c:Nat->Nat):Nat->Nat
 |0=>0
 |n+1=>xH c n+c n
theorem PO{O:Type}(f:O->Nat)(fA:List O):∀n,n<=fA.length->xH (λi=>((fA[i]?).map f).getD 0) n=((fA.take n).map f).sum
 |0,_=>by simp[xH]
 |n+1,h=>by
  have aw:fA[n]?=some fA[n]:=aA (by omega);show xH _ n+((fA[n]?).map f).getD 0=_;rw[PO f fA n (by omega),List.take_add_one,aw,List.map_append,List.sum_append];simp only[cA,Option.getD_some,Option.toList_some,bL,List.map_nil,b3,List.sum_nil,Nat.add_zero]
theorem alS{H:Type}(fN:yo H)(s:ByteArray):jD [.lit (.string s)]+1<=fN.B (.lit (.string s.data.toList)):=by
 have:=fN.str s.data.toList;rw[<-Lib.size_eq]at this;show s.size+0+1<=_;omega
theorem Xv{w:World}{g b K:Nat}{M:Mem}{R:List D->Prop}{c:Nat->Nat}:∀(n:Nat),(∀i,i<n->∃az vs,vs.length=K/\uI w g (b+i*K) vs/\c4 M az vs/\R az/\jD az+1<=c i) ->
  ∃es vs,es.length=n/\vs.length=n*K/\uI w g b vs/\fo M es vs/\(∀x∈es,R x/\x.length=K)/\ss es<=xH c n
 |0,_=>⟨[],[],rfl,by simp,λj u hu=>by simp at hu,rfl,(λx U=>by cases U),aM _⟩
 |n+1,h=>by
  obtain⟨es,vs,I,aa,aB,aW,bO,c7⟩:=Xv n λi hi=>h i (by omega);obtain⟨az,us,b9,k2,gY,nn,Bp⟩:=h n (by omega);refine⟨es++[az],vs++us,by simp[I],by rw[List.length_append,aa,b9,Nat.succ_mul],aB.append (by rw[aa];exact k2),SW aW gY,(λx U=>?_),by rw[XZ,xH];simp only[ss];omega⟩;rcases cT.1 U with U|U
  .exact bO x U
  .obtain rfl:=cc.1 U;exact⟨nn,by rw[<-c4.length gY,b9]⟩
theorem U3{M:Mem}{K:Nat}{R:List D->Prop}{cs:List Value}{c:Nat->Nat}:∀(n:Nat),(∀i,i<n->∃az,c4 M az ((cs.drop (i*K)).take K)/\R az/\jD az+1<=c i) ->
  ∃ps:List (List D),ps.length=n/\c4 M ps.flatten (cs.take (n*K))/\(∀x∈ps,R x)/\jD ps.flatten<=xH c n
 |0,_=>⟨[],rfl,by simp[c4],(λx U=>by cases U),aM _⟩
 |n+1,h=>by
  obtain⟨ps,I,aa,aB,aW⟩:=U3 n λi hi=>h i (by omega);obtain⟨az,b9,k2,gY⟩:=h n (by omega);refine⟨ps++[az],by simp[I],?_,(λx U=>?_),by rw[b5,P3,xH];simp only[List.flatten_cons,List.flatten_nil,aQ];omega⟩
  .rw [b5,Nat.succ_mul,List.take_add];exact Kf aa (by simpa using b9)
  .rcases cT.1 U with U|U
   .exact aB x U
   .obtain rfl:=cc.1 U;exact k2
theorem Vk{P:Program}{M:Mem}{R:TypeId->List D->Prop}{cs:List Value}:∀(fs:List Field)(ws:List Nat)(o:Nat),CU P.cellsOf fs o cs.length=true->ws.length=fs.length ->
  (∀p∈fs.zip ws,∃az,c4 M az ((cs.drop p.1.offset).take (P.cellsOf p.1.type))/\R p.1.type az/\jD az+1<=p.2)->∃az,c4 M az (cs.drop o)/\Hv R fs az/\jD az<=ws.sum
 |[],[],o,h,_,_=>by
  simp only[CU,beq_iff_eq]at h;exact⟨[],by simp[c4,h],rfl,bo _⟩
 |[],w::ws,o,_,hl,_=>by simp at hl
 |f::fs,[],o,_,hl,_=>by simp at hl
 |f::fs,w::ws,o,h,hl,k=>by
  simp only[CU,ba,beq_iff_eq]at h;obtain⟨az,I,aa,aB⟩:=Vk fs ws _ h.2 (by simpa using hl) λg ak=>k g (by simp[cu,ak]);obtain⟨es,b9,k2,gY⟩:=k (f,w) (by simp[cu]);rw[h.1]at b9;refine⟨es++az,?_,⟨es,az,rfl,k2,aa⟩,by rw[P3,b3];omega⟩;have:=Kf b9 (v:=(cs.drop o).drop (P.cellsOf f.type)) (b:=az) (by rw[List.drop_drop];exact I)
  rwa [List.take_append_drop]at this
theorem IW{H:Type}{enc:TypeId×Value->H}{P:Program}{w:World}{base:Nat}{sp:Nat->Bool}{held:Bool}(fN:yo H):
  ∀(k fuel:Nat)(t:TypeId)(cs:List Value)(x:DataW H×List MemPlace),oy P k t=true->DataW.trod enc P w base sp held fuel t cs=some x ->
   ∃az,c4 (λg=>w.heap[g]?) az cs/\jE P k t az/\jD az+1<=fN.B x.1
 |0,_,_,_,_,h,_=>by simp[oy]at h
 |k+1,0,t,cs,x,_,h=>by simp[DataW.trod]at h
 |k+1,fuel+1,t,cs,x,h,ah=>by
  unfold DataW.trod at ah;cases hu:P.underlying t with
  |none=>simp[oy,hu]at h
  |some ty=>
   rw[hu]at ah;simp only[jE,hu];cases ty with
   |bool=>
    split at ah<;>first|cases ah;done|(rename_i he;cases he)
    exact⟨[.lit _],⟨_,[],rfl,⟨rfl,rfl⟩,rfl⟩,⟨_,rfl⟩,fN.one _⟩
   |int q=>
    split at ah<;>first|cases ah;done|(rename_i he;cases he)
    split at ah
    .rename_i au;rw[au.1];exact⟨[.lit _],⟨_,[],rfl,⟨rfl,rfl⟩,rfl⟩,⟨_,au.2,rfl⟩,fN.one _⟩
    .cases ah
   |string=>
    split at ah<;>first|cases ah;done|(rename_i he;cases he)
    split at ah
    .rename_i au;exact⟨[.lit _],⟨_,[],rfl,⟨rfl,rfl⟩,rfl⟩,⟨_,au,rfl⟩,by cases ah;exact alS fN _⟩
    .cases ah
   |slice e=>
    simp only[oy,hu,ba,decide_eq_true_eq]at h
    split at ah<;>first|cases ah;done|(rename_i he;cases he)
    .exact ⟨[.sl []],⟨_,[],rfl,⟨none,0,0,rfl,rfl,aM _,bo _,.inl rfl⟩,rfl⟩,⟨[],bo _,rfl,λx U=>by cases U⟩,fN.one _⟩
    .rename_i a len cap;simp only at ah
     split at ah
     .rename_i ag;cases hm:(List.range len).mapM (λi=>(w.cells? base (a.add (i*P.cellsOf e)) (P.cellsOf e)).bind (DataW.trod enc P w base sp held fuel e))with
      |none=>rw[hm]at ah;cases ah
      |some fA=>
       have hl:=mapM_some_length hm;rw[cx]at hl;have hi:∀i,i<len->∃y vs,w.cells? base (a.add (i*P.cellsOf e)) (P.cellsOf e)=some vs/\DataW.trod enc P w base sp held fuel e vs=some y/\fA[i]?=some y:=by
        intro i hi;have:=mapM_some_get hm i i (by simp[hi]);rw[aA (by omega)]at this;obtain⟨vs,I,aa⟩:=Option.bind_eq_some_iff.1 this;exact⟨_,vs,I,aa,aA (by omega)⟩
       rcases Nat.eq_zero_or_pos len with aO|aO
       .subst aO;exact⟨[.sl []],⟨_,[],rfl,⟨some a,0,cap,rfl,rfl,ag.2.1,bo _,.inl rfl⟩,rfl⟩,⟨[],bo _,rfl,λx U=>by cases U⟩,fN.one _⟩
       .have ae:a.spot=none:=by
         obtain⟨y,vs,I,_⟩:=hi 0 aO;obtain⟨m,hm⟩:∃m,P.cellsOf e=m+1:=⟨P.cellsOf e-1,by omega⟩
         rw[Nat.zero_mul,hm]at I;exact ZO I
        obtain⟨es,vs,b9,k2,gY,nn,Bp,amy⟩:=Xv (w:=w) (g:=a.block) (b:=a.off) (K:=P.cellsOf e) (M:=λg=>w.heap[g]?) (R:=jE P k e) (c:=λi=>((fA[i]?).map λy=>fN.B y.1).getD 0) len λi hl=>by
         obtain⟨y,vs,I,aa,aw⟩:=hi i hl;rw[abN ae]at I;obtain⟨akD,iq⟩:=aaK I rfl;obtain⟨az,r1,r2,bx⟩:=IW fN k fuel e vs y h.2 aa;exact⟨az,vs,akD,iq,r1,r2,by rw[aw];exact bx⟩
        have av:vs≠[]:=by
         intro av;rw[av]at k2;have:0<len*P.cellsOf e:=Nat.mul_pos aO h.1;simp at k2;omega
        have hlen:len<=maxLen:=Nat.le_trans ag.2.1 ag.2.2;refine⟨[.sl es],⟨_,[],rfl,⟨some a,len,cap,rfl,b9.symm,ag.2.1,hlen,.inr ⟨a.block,a.off,P.cellsOf e,vs,?_,gY.at av,h.1,λx U=>(Bp x U).2,nn⟩⟩,rfl⟩,⟨es,by omega,rfl,λx U=>(Bp x U).1⟩,?_⟩
        .cases a;simp_all
        .rw [hm,Option.bind_some]at ah;obtain⟨rest,_,U⟩:=a6.1 ah;subst U;have EG:=PO (λy=>fN.B y.1) fA fA.length (aM _);rw[bB,hl]at EG;have j9:=fN.slice (fA.map (·.1)) (rest.map (·.1));rw[cz]at j9;have aT:(fA.map (fN.B ∘ λy=>y.1)).sum=(fA.map λy=>fN.B y.1).sum:=rfl;show wt (.sl es)+0+1<=fN.B (.slice (fA.map (·.1)) (rest.map (·.1)));simp only[wt];omega
     .cases ah
   |struct fs=>
    simp only[oy,hu,ba,List.all_eq_true]at h
    split at ah<;>first|(rename_i he;cases he;done)|(rename_i he;cases he)|(exfalso;simp_all;done)
    split at ah
    .rename_i ad;rw[<-ad]at h;obtain⟨xs,hm,U⟩:=a6.1 ah;subst U;have Wt:=mapM_some_length hm;obtain⟨az,I,aa,aB⟩:=Vk (P:=P) (M:=λg=>w.heap[g]?) (R:=jE P k) fs.toList (xs.map λy=>fN.B y.1) 0 h.1 (by rw[List.length_map];omega) λp af=>by
      obtain⟨i,hi⟩:=List.getElem?_of_mem af;obtain⟨Eh,Ik⟩:=List.getElem?_zip_eq_some.1 hi;have bU:=(List.getElem?_eq_some_iff.1 Eh).1;have:=mapM_some_get hm i p.1 Eh;rw[aA (by omega)]at this;obtain⟨az,r1,r2,bx⟩:=IW fN k fuel p.1.type _ _ (h.2 p.1 (List.mem_of_getElem? Eh)) this;rw[List.getElem?_map,aA (by omega),cA]at Ik;exact⟨az,r1,r2,by rw[<-Option.some.inj Ik];exact bx⟩
     have j9:=fN.agg (xs.map (·.1));rw[cz]at j9;have aT:(xs.map (fN.B ∘ λy=>y.1)).sum=(xs.map λy=>fN.B y.1).sum:=rfl;exact⟨az,I,aa,by show jD az+1<=fN.B (.agg (xs.map (·.1)));omega⟩
    .cases ah
   |array n e=>
    simp only[oy,hu,ba,beq_iff_eq]at h
    split at ah<;>first|(rename_i he;cases he;done)|(rename_i he;cases he)|(exfalso;simp_all;done)
    split at ah
    .rename_i ad;obtain⟨xs,hm,U⟩:=a6.1 ah;subst U;have hl:=mapM_some_length hm;rw[cx]at hl;obtain⟨ps,I,aa,aB,aW⟩:=U3 (c:=λi=>((xs[i]?).map λy=>fN.B y.1).getD 0) (M:=λg=>w.heap[g]?) (K:=P.cellsOf e) (R:=jE P k e) n λi hi=>by
      have:=mapM_some_get hm i i (by simp[hi]);rw[aA (by omega)]at this;obtain⟨az,r1,r2,bx⟩:=IW fN k fuel e _ _ h.2 this;exact⟨az,r1,r2,by rw[aA (by omega)];exact bx⟩
     rw[h.1,<-ad,bB]at aa;have EG:=PO (λy=>fN.B y.1) xs xs.length (aM _);rw[bB,hl]at EG;have j9:=fN.agg (xs.map (·.1));rw[cz]at j9;have aT:(xs.map (fN.B ∘ λy=>y.1)).sum=(xs.map λy=>fN.B y.1).sum:=rfl;exact⟨_,aa,⟨ps,rfl,I,aB⟩,by show jD ps.flatten+1<=fN.B (.agg (xs.map (·.1)));omega⟩
    .cases ah
   |_=>simp[oy,hu]at h
theorem akK{H:Type}{enc:TypeId×Value->H}{P:Program}{w:World}{base km:Nat}{r:Reach}{sp:Nat->Bool}{held:Bool}{k:Nat}{t:TypeId}{v:Value}{d:DataW H}{ps:List MemPlace}
  (fN:yo H) (af:oy P k t=true) (gI:Value.okWide P w r km t v) (ah:DataW.Trod enc P w base sp held t v d ps):
  ∃gx:T,gx.val=v/\gx.tidy/\dV (λg=>w.heap[g]?) gx/\gx.blocks=[]/\DA P k t gx.erase/\wt gx.erase+1<=fN.B d:=by
 obtain⟨fuel,hf⟩:=ah;obtain⟨az,I,aa,aB⟩:=IW fN k fuel t _ _ af hf;have agg:(∃cs,v=.agg cs)->∃gx:T,gx.val=v/\gx.tidy/\dV (λg=>w.heap[g]?) gx/\gx.blocks=[]/\gx.erase=.agg az:=by
  rintro⟨cs,rfl⟩;obtain⟨ts,cb,cK,cS,dh,dr⟩:=xX I;refine⟨.agg ts,?_,cS,dh,?_,?_⟩
  .simp [T.val,cK,Value.cells]
  .simp only[T.blocks,T.sW,List.flatMap_eq_nil_iff];exact dr
  .simp only[T.erase,T.hz,cb]
 have one:(∀cs,v≠.agg cs)->∃d,az=[d]/\∃gx:T,gx.val=v/\gx.tidy/\dV (λg=>w.heap[g]?) gx/\gx.blocks=[]/\gx.erase=d:=by
  intro av;have ad:v.cells.toList=[v]:=by cases v<;>first|rfl|exact absurd rfl (av _)
  rw[ad]at I;have hl:=c4.length I
  match az,hl,I with
  |[d],_,I=>
   obtain⟨ts,cb,cK,cS,dh,dr⟩:=xX I
   match ts,cb with
   |[gx],cb=>
    simp only[bL,List.map_nil,c_,and_true]at cb;simp only[T.bP,c_,and_true]at cK;refine⟨d,rfl,gx,cK,cS.1,?_,dr gx (by simp),cb⟩;obtain⟨_,_,aT,a5,_⟩:=I;have hr:bu (λg=>w.heap[g]?) d v:=by cases aT;exact a5
    refine xW dh.1 ?_;rw[cb];rintro rfl;simp[bu]at hr
 unfold DA;cases hu:P.underlying t with
 |none=>simp only[Value.okWide,hu,Cell.okWide,Cell.ok]at gI
 |some ty=>
  cases ty with
  |struct fs=>
   simp only[Value.okWide,hu]at gI;obtain⟨cs,av,_⟩:=gI;obtain⟨gx,a,b,c,e,f⟩:=agg ⟨cs,av⟩;exact⟨gx,a,b,c,e,⟨az,f,aa⟩,by rw[f];exact aB⟩
  |array n e=>
   simp only[Value.okWide,hu]at gI;obtain⟨cs,av,_⟩:=gI;obtain⟨gx,a,b,c,e,f⟩:=agg ⟨cs,av⟩;exact⟨gx,a,b,c,e,⟨az,f,aa⟩,by rw[f];exact aB⟩
  |_=>
   obtain⟨bf,rfl,gx,a,b,c,e,rfl⟩:=one λcs av=>by
    subst av
    first
     |(simp only[Value.okWide,hu,Cell.okWide,Cell.ok]at gI;done)
     |(simp only[Value.okWide,hu,Cell.okWide,Cell.ok]at gI;exact gI)
   exact⟨gx,a,b,c,e,aa,by simpa[jD]using aB⟩
theorem W8{H:Type}{enc:TypeId×Value->H}{P:Program}{w:World}{base km:Nat}{r:Reach}{sp:Nat->Bool}{held:Bool}{k:Nat}(fN:yo H):
  ∀(ts:List TypeId)(vs:List Value)(az:List (DataW H))(ps:List MemPlace),(∀t∈ts,oy P k t=true)->DataW.TrodAll enc P w base sp held ts vs az ps ->
   (∀(j:Nat) t v,ts[j]?=some t->vs[j]?=some v->Value.okWide P w r km t v) ->
   ∃tN:List T,T.bP tN=vs/\(∀t∈tN,t.tidy/\dV (λg=>w.heap[g]?) t)/\T.bq tN=[]/\yg P k ts (tN.map T.erase)/\jD (tN.map T.erase)<=(az.map fN.B).sum
 |[],vs,az,ps,_,h,_=>by
  obtain⟨rfl,rfl,rfl⟩:=trodAll_nil h;exact⟨[],rfl,by simp,rfl,rfl,aM _⟩
 |t::ts,vs,az,ps,af,h,av=>by
  obtain⟨v,k9,d,m9,p,q,rfl,rfl,rfl,I,aa⟩:=trodAll_cons h;obtain⟨gx,a2,bA,a3,a4,cj,eQ⟩:=akK fN (af t (by simp)) (av 0 t v rfl rfl) I;obtain⟨tN,cb,cK,cS,dh,dr⟩:=W8 fN ts k9 m9 q (λt al=>af t (by simp[al])) aa (λj t v aB aW=>av (j+1) t v (by simpa using aB) (by simpa using aW));refine⟨gx::tN,by simp[T.bP,a2,cb],?_,by simp[T.bq,a4,cS],⟨_,_,rfl,cj,dh⟩,by simp only[bL,b3,jD];omega⟩;intro x U;rcases List.mem_cons.1 U with rfl|U
  .exact ⟨bA,a3⟩
  .exact cK x U
theorem akL{H:Type}{enc:TypeId×Value->H}{E:Env}(fN:yo H)(na:Du E){w:World}{base km:Nat}{r:Reach}{sp:Nat->Bool}{held:Bool}{k f:Nat}{fd:Func}{c:Code}
  {ts:List TypeId} {args:Array Value} {az:List (DataW H)} {ps:List MemPlace}
  (hf:E.P.funcs[f]?=some fd) (ao:E.kG f=none) (ag:fd.body=some c) (tl:∀j,E.mode f j≠.eF)
  (af:∀t∈ts,oy E.P k t=true) (ah:DataW.TrodAll enc E.P w base sp held ts args.toList az ps)
  (av:∀(j:Nat) t v,ts[j]?=some t->args[j]?=some v->Value.okWide E.P w r km t v)
  (ef:Good E (λg=>w.heap[g]?)) (DK:∀xs,yg E.P k ts xs->jD xs<=(az.map fN.B).sum->bR E f xs (.lit (.bool true)) []):
  Calls E.P f args w λe w'=>e=.returned (.bool true)/\Below w.heap.size w w':=by
 obtain⟨tN,I,aa,aB,aW,bO⟩:=W8 fN ts args.toList az ps af ah (λj t v a b=>av j t v a (by simpa using b));obtain⟨n,pG⟩:=DK _ aW bO;have cm:=S7 na n f _ _ _ (pG n (aM n)) (λg=>w.heap[g]?) w tN rfl aa (by rw[Q2 tN 0 tl];simp) (by rw[aB];exact dT.nil _ _) (λg o h=>h) ef;rw[I]at cm;unfold oA at cm;rw[QK hf (na.name f fd hf ao) ag]at cm;refine Calls.mono cm λe w' ⟨M',t,fv,he,al,e6,hr,_,_,_,cg,bW,eT⟩=>?_;rw[aB]at eT;have akb:t.val=.bool true:=by
  cases t with
  |leaf d v=>
   simp only[T.erase]at al;subst al;have hr:bu M' (.lit (.bool true)) v:=hr;simp only[bu]at hr;exact hr.1
  |_=>simp[T.erase]at al
 refine⟨by rw[he,akb],eT.os,eT.tape,eT.output,eT.size,λg ak=>eT.out g ak (by simp[keys])⟩
theorem alj{H:Type}{enc:TypeId×Value->H}{E:Env}(fN:yo H)(na:Du E){s:ChangeSpec}{k f:Nat}{fd:Func}{c:Code}{ts:List TypeId}{tb:TypeId}{base:Nat}
  {W:World} {args:Array Value} {az gs:List (DataW H)} {before:List MemPlace}
  (hf:E.P.funcs[f]?=some fd) (ao:E.kG f=none) (AZ:fd.body=some c) (tl:∀j,E.mode f j≠.eF) (e3:fd.params=ts.toArray) (ajY:fd.resultTypes=#[tb]) (aj9:E.P.underlying tb=some .bool)
  (af:∀t∈ts,oy E.P k t=true) (hl:laidOutB E.P=true) (ajW:∀t∈ts,E.P.readableRec t=true/\t<E.P.types.size)
  (nf:s.vars=[]) (gW:∀az:List (DataW H),az.length=ts.length->(s.fn H az).results=[.lit (.bool true)]/\(s.fn H az).args=az/\(s.fn H az).vars=[])
  (gI:∀(j:Nat) t v,fd.params[j]?=some t->args[j]?=some v->Value.okWide E.P W .any base t v)
  (rN:DataW.Whole enc E.P fd.params.toList s.vars false W args.toList az gs before)
  (ef:Good E (λg=>W.heap[g]?)) (DK:∀xs,yg E.P k ts xs->jD xs<=(az.map fN.B).sum->bR E f xs (.lit (.bool true)) []):
  Calls E.P f args W λe sU=>∃v,e=.returned v/\s.post enc E.P fd false true false false W args v sU:=by
 have bU:∀p∈before,p.block<W.heap.size:=λp af=>rN.lt p af;have aim:=rN;obtain⟨p,q,c2,dZ,rfl,yV,l6⟩:=rN;rw[nf]at dZ;have u7:gs=[]/\q=[]:=by cases gs<;>simp[DataW.TrodVars]at dZ;exact⟨rfl,dZ⟩
 obtain⟨rfl,rfl⟩:=u7;simp only[aQ]at *;rw[e3]at c2 gI;simp only[List.toList_toArray]at c2;have cn:=akL fN na hf ao AZ tl af c2 (λj t v I aa=>gI j t v (by simpa using I) aa) ef DK;have hlen:az.length=ts.length:=by
  have:∀(ts:List TypeId)(vs:List Value)(az:List (DataW H))(p:List MemPlace),DataW.TrodAll enc E.P W 0 (λ_=>true) true ts vs az p->az.length=ts.length:=by
   intro ts
   induction ts with
   |nil=>intro vs az p h;obtain⟨rfl,rfl,rfl⟩:=trodAll_nil h;rfl
   |cons t ts aN=>
    intro vs az p h;obtain⟨v,k9,d,m9,p,q,rfl,rfl,rfl,I,aa⟩:=trodAll_cons h;simp[aN _ _ _ aa]
  exact this _ _ _ _ c2
 obtain⟨aT,a5,ez⟩:=gW az hlen;refine cn.mono λe sU ⟨he,ag⟩=>⟨_,he,az,[],p,[],p,[],aim,?_,?_,?_,World.keptBut_mono (λx U=>⟨U,.inr (.inl U)⟩) (ag.frame (·∈p)),λh=>by cases h⟩
 .rw [aQ,aT,ajY];exact trodAll_cons_mk (shut_bool aj9 _) rfl
 .rw [aQ,a5,e3];exact SN hl ag ts args.toList az p ajW c2 bU (λx U=>by simpa using bU x U)
 .rw [aQ,ez,nf];exact rfl
end Go.aS
