/- An interpreter of function bodies, sound. No conditions. -/
import Derived.Lib.LaidTab
import Derived.Test.YtcbhcnkfefbddaaGreatDoorOwn26
import Derived.Test.YtcbhcnkfefbddaaGreatDoorOwn13
import Derived.Test.YtcbhcnkfefbddaaGreatDoorOwn17
import Derived.Test.YtcbhcnkfefbddaaGreatDoorOwn7
set_option linter.all false
open List renaming mem_singleton->aA,mem_cons_self->aM,not_mem_nil->aQ,map_cons->a6,map_nil->ba,append_nil->bo,mem_cons->bB,nil_append->b5
open Array renaming getElem?_eq_some_iff->bL
open List.cons renaming injEq->b3
open Prod.mk renaming injEq->cc
namespace Go.aS
open D Go.Lib
theorem ahO{E:Env}{P:Program}{W:World}{name:String}{g:Nat}(na:E.H2=Ha g)(ak:P.globalNamed name=some g)(h:TabIs P W name .u8 (zE.map λ(x:Nat)=>(x:Int))):Good E (λg=>W.heap[g]?):=by
 intro M' bW;rw[na];have ad:∀i,i<zE.length->W.cell? ⟨g,i,none⟩=some (.int .u8 ((zE.map λ(x:Nat)=>(x:Int)).getD i 0)):=λi hi=>h.cell ak i (by simpa using hi);have aO:=ad 0 (by decide);unfold World.cell? at aO;cases an:W.heap[g]? with
 |none=>rw[an]at aO;cases aO
 |some o=>
  cases o with
  |cells cs e fr=>
   refine⟨cs,e,fr,bW g _ an,λi x U=>?_⟩;have hi:i<zE.length:=(List.getElem?_eq_some_iff.1 U).1;have:=ad i hi;unfold World.cell? at this;rw[an]at this;simp only[Option.isSome_none,Bool.false_eq_true,if_false]at this;rw[this];simp[List.getD,U]
  |_=>rw[an]at aO;simp at aO
end Go.aS

namespace Go.aS
open D Go.Lib
def TI(P:Program)(f t e:Nat):Prop:=∀(b:Nat)(w:World)(p v:Value)(n:Nat)(xs:List Value)(s:ByteArray),w.heap[b]?=some (.cells #[p,v] t (0,0))->(p=.pointer none∨p=.pointer (some ⟨b,0,none⟩)) ->
 w.ownsRow 0 e 1 v n xs->v.ownBlock≠some b->n+s.size<=140737488355328 ->
 Calls P f #[.pointer (some ⟨b,0,none⟩),.string s] w λDR w'=>DR=.returned (.tuple #[.int .i64 s.size,.nilIface]) /\
  ∃gN,w'.heap[b]?=some (.cells #[.pointer (some ⟨b,0,none⟩),gN] t (0,0))/\w'.ownsRow 0 e 1 gN (n+s.size) (xs++strCells s)/\(∀k,gN.ownBlock=some k->v.ownBlock=some k∨w.heap.size<=k) /\
   w'.os=w.os/\w'.tape=w.tape/\w'.output=w.output/\w.heap.size<=w'.heap.size/\∀k,k<w.heap.size->k≠b->v.ownBlock≠some k->w'.heap[k]?=w.heap[k]?
def SX(P:Program)(f t e:Nat):Prop:=∀(b:Nat)(w:World)(p v:Value)(l:List UInt8),w.heap[b]?=some (.cells #[p,v] t (0,0)) ->
 w.ownsRow 0 e 1 v l.length (l.map λc=>Value.int .u8 c.toNat) ->
 Calls P f #[.pointer (some ⟨b,0,none⟩)] w λDR w'=>DR=.returned (.string ⟨l.toArray⟩)/\w.grownBy w' v.ownBlock
theorem Cz{M:Mem}{w:World}{B:List (Nat×Obj)}(h:dT M w B){k:Nat}(aj:k∈keys B):M k=none:=by
 obtain⟨x,U,rfl⟩:=List.mem_map.1 aj;exact h.apart x U
theorem R2{M:Mem}{w:World}{v:Value}{bs:List (Nat×Obj)}{t e:Nat}{l:List UInt8}(h:T.Dt v bs t e l)(ag:dT M w bs):
  ∃g p h,v=.pointer (some ⟨g,0,none⟩)/\(p=.pointer none∨p=.pointer (some ⟨g,0,none⟩))/\w.heap[g]?=some (.cells #[p,h] t (0,0))/\w.ownsRow 0 e 1 h l.length (l.map λc=>Value.int .u8 c.toNat)/\h.ownBlock≠some g /\
   ∀k,k∈keys bs↔k=g∨h.ownBlock=some k:=by
 obtain⟨g,p,rfl,af,⟨rfl,rfl⟩|⟨b,cap,cur,rfl,I,aa,aB,aW⟩⟩:=h
 .refine ⟨g,p,_,rfl,af,ag.heap (g,_) aM,⟨by simp,.inl ⟨rfl,rfl⟩⟩,by simp[Value.ownBlock],λk=>by simp[keys,Value.ownBlock]⟩
 .have ao:=ag.nodup;simp only[a6,ba,List.nodup_cons,aA,aQ,not_false_eq_true,List.nodup_nil,and_true]at ao;refine⟨g,p,_,rfl,af,ag.heap (g,_) aM,⟨by simp,.inr ⟨b,cap,cur,rfl,Nat.zero_le _,ag.heap (b,_) (List.mem_cons_of_mem _ aM),I,aa,by omega,by simpa using aW⟩⟩,?_,λk=>?_⟩
  .intro e;have a5:some b=some g:=e;exact ao (Option.some.inj a5).symm
  .simp only[keys,a6,ba,bB,aQ,or_false,Value.ownBlock,aE];constructor<;>rintro(h|h)<;>simp[h]
theorem Sd{t:T}(al:t.tidy){a b:Nat}{l:List UInt8}(h:t.erase=.bld a b l):∃v bs,t=.bld v bs a b l:=by
 cases t with
 |leaf d v=>simp only[T.erase]at h;subst h;simp[T.tidy]at al
 |bld v bs t e zl=>simp only[T.erase,D.bld.injEq]at h;obtain⟨rfl,rfl,rfl⟩:=h;exact⟨v,bs,rfl⟩
 |_=>simp[T.erase]at h
theorem aaU{M:Mem}{t:T}(ak:dV M t){u:Value}(h:t.erase=.lit u):t=.leaf (.lit u) u:=by
 cases t with
 |leaf d v=>
  simp only[T.erase]at h;subst h;have ak:bu M (.lit u) v:=ak;simp only[bu]at ak;rw[ak.1]
 |_=>simp[T.erase]at h
theorem Z0{E:Env}{f t e:Nat}(oN:E.mode f 0=.eF)(Wu:E.mode f 1≠.eF)(gA:∀args w,(callFunc f args).run E.P w=.ok (.enter f args) w)(hw:TI E.P f t e){az:List D}{r:D}{outs:List D}(h:CN t e az=some (r,outs)):
  sO E f az r outs:=by
 unfold CN at h
 split at h
 .rename_i bz e' l s
  split at h
  .rename_i ad;obtain⟨rfl,rfl,hlen⟩:=ad;simp only[aE,cc]at h;obtain⟨rfl,rfl⟩:=h;intro M w ts e3 qP Eo dI eE ef;rcases ts with _|⟨t1,_|⟨t2,_|⟨t3,rs⟩⟩⟩
   case nil=>simp at e3
   case cons.nil=>simp at e3
   case cons.cons.cons=>simp at e3
   .simp only[a6,ba,b3,and_true]at e3;obtain⟨v,bs,rfl⟩:=Sd (qP t1 (by simp)).1 e3.1;obtain rfl:=aaU (qP t2 (by simp)).2 e3.2;have ag:T.Dt v bs bz e' l:=(qP (T.bld v bs bz e' l) aM).2;simp only[T.bq,T.blocks,bo]at dI⊢;obtain⟨g,p,ah,rfl,af,ak,ly,cI,rV⟩:=R2 ag dI;have y2:ht E f 0 [T.bld (.pointer (some ⟨g,0,none⟩)) bs bz e' l,T.leaf (.lit (.string s)) (.string s)]=[T.bld (.pointer (some ⟨g,0,none⟩)) bs bz e' l]:=by simp[ht,oN,Wu]
    rw[y2];unfold oA;rw[gA];refine(hw g w p ah l.length _ s ak af ly cI hlen).mono ?_;rintro DR w' ⟨rfl,gN,hL,Ev,kz,an,Oq,pJ,fO,tn⟩;have bU:g<w.heap.size:=(bL.1 ak).1;have yM:M g=none:=Cz dI ((rV g).2 (.inl rfl));have aif:∀k,gN.ownBlock=some k->M k=none:=λk aj=>by
     rcases kz k aj with h|h
     .exact Cz dI ((rV k).2 (.inr h))
     .cases bW:M k with
      |none=>rfl
      |some o=>have:=eE.lt bW;omega
    have te:∀k,gN.ownBlock=some k->k≠g:=λk aj e=>by
     rcases kz k aj with h|h
     .exact cI (by rw[h,e])
     .omega
    have tk:fE M w':=λk o aj=>by
     have hC:=eE k o aj;rw[tn k (eE.lt aj) (λe=>by rw[e,yM]at aj;cases aj) (λe=>by rw[Cz dI ((rV k).2 (.inr e))]at aj;cases aj)];exact hC
    have n6:(l++s.data.toList).map (λc=>Value.int .u8 c.toNat)=l.map (λc=>Value.int .u8 c.toNat)++strCells s:=by simp[strCells]
    have iE:(l++s.data.toList).length=l.length+s.size:=by rw[List.length_append,Array.length_toList];rfl
    rw[<-n6,<-iE]at Ev;have build:∀uM:List (Nat×Obj),T.Dt (.pointer (some ⟨g,0,none⟩)) uM bz e' (l++s.data.toList)->dT M w' uM->(∀k∈keys uM,k=g∨gN.ownBlock=some k) ->
      ∃M' gx fv,Ending.returned (.tuple #[.int .i64 s.size,.nilIface])=.returned (T.val gx)/\gx.erase=D.bt [D.lit (.int .i64 s.size),D.lit .nilIface]/\gx.tidy/\lP M' gx/\fv.map T.erase=[D.bld bz e' (l++s.data.toList)]/\(∀o∈fv,o.tidy/\T.wf M' o) /\
       T.bP fv=T.bP [T.bld (.pointer (some ⟨g,0,none⟩)) bs bz e' l]/\dT M' w' (gx.blocks++T.bq fv)/\fE M' w'/\cN M (keys bs) w M' (keys (gx.blocks++T.bq fv)) w':=by
     intro uM I aa aB;refine⟨M,.bt [.leaf (.lit (.int .i64 s.size)) (.int .i64 s.size),.leaf (.lit .nilIface) .nilIface],[.bld (.pointer (some ⟨g,0,none⟩)) uM bz e' (l++s.data.toList)],rfl,rfl,⟨trivial,trivial,trivial⟩,?_,rfl,?_,rfl,?_,tk,?_⟩
     .intro c ad;simp only[bB,aQ,or_false]at ad;rcases ad with rfl|rfl
      .exact ⟨rfl,rfl⟩
      .exact ⟨rfl,rfl⟩
     .intro o an;obtain rfl:=aA.1 an;exact⟨trivial,I⟩
     .simpa [T.blocks,T.bq]using aa
     .have l4:keys ((T.bt [T.leaf (.lit (.int .i64 s.size)) (.int .i64 s.size),T.leaf (.lit .nilIface) .nilIface]).blocks++T.bq [T.bld (.pointer (some ⟨g,0,none⟩)) uM bz e' (l++s.data.toList)])=keys uM:=by simp[T.blocks,T.bq]
      rw[l4];refine⟨an,Oq,pJ,fO,λk aj y3=>?_,Mem.le_refl M,λ_ _ h=>.inl h,λk aj=>?_⟩
      .have:=mt (rV k).2 y3;exact tn k aj (λe=>this (.inl e)) (λe=>this (.inr e))
      .rcases aB k aj with rfl|h
       .exact .inl ((rV k).2 (.inl rfl))
       .rcases kz k h with h|h
        .exact .inl ((rV k).2 (.inr h))
        .exact .inr h
    rcases Ev.2 with⟨rfl,Ba⟩|⟨k,cap,cur,rfl,_,aj,Bc,jx,ku,Oo⟩
    .have Il:l++s.data.toList=[]:=List.eq_nil_of_length_eq_zero Ba;refine build [(g,.cells #[.pointer (some ⟨g,0,none⟩),.slice none 0 0] bz (0,0))] ⟨g,_,rfl,.inr rfl,.inl ⟨Il,rfl⟩⟩ ⟨by simp,?_,?_⟩ (by simp[keys])
     .intro x U;obtain rfl:=aA.1 U;exact hL
     .intro x U;obtain rfl:=aA.1 U;exact yM
    .have ai9:=te k rfl;refine build [(g,.cells #[.pointer (some ⟨g,0,none⟩),.slice (some ⟨k,0,none⟩) (l++s.data.toList).length cap] bz (0,0)),(k,.cells cur e' (0,0))]
      ⟨g,_,rfl,.inr rfl,.inr ⟨k,cap,cur,rfl,Bc,jx,by omega,by simpa using Oo⟩⟩ ⟨by simpa using λe=>ai9 e.symm,?_,?_⟩ (by simp[keys,Value.ownBlock])
     .intro x U;simp only[bB,aQ,or_false]at U;rcases U with rfl|rfl
      .exact hL
      .exact aj
     .intro x U;simp only[bB,aQ,or_false]at U;rcases U with rfl|rfl
      .exact yM
      .exact aif k rfl
  .cases h
 .cases h
theorem Zm{E:Env}{f t e:Nat}(oN:E.mode f 0=.eF)(gA:∀args w,(callFunc f args).run E.P w=.ok (.enter f args) w)(hw:SX E.P f t e){az:List D}{r:D}{outs:List D}(h:CE t e az=some (r,outs)):
  sO E f az r outs:=by
 unfold CE at h
 split at h
 .rename_i bz e' l
  split at h
  .rename_i ad;obtain⟨rfl,rfl⟩:=ad;simp only[aE,cc]at h;obtain⟨rfl,rfl⟩:=h;intro M w ts e3 qP Eo dI eE ef;rcases ts with _|⟨t1,_|⟨t2,rs⟩⟩
   case nil=>simp at e3
   case cons.cons=>simp at e3
   .simp only[a6,ba,b3,and_true]at e3;obtain⟨v,bs,rfl⟩:=Sd (qP t1 (by simp)).1 e3;have ag:T.Dt v bs bz e' l:=(qP (T.bld v bs bz e' l) aM).2;simp only[T.bq,T.blocks,bo]at dI⊢;obtain⟨g,p,ah,rfl,af,ak,ly,cI,rV⟩:=R2 ag dI;have y2:ht E f 0 [T.bld (.pointer (some ⟨g,0,none⟩)) bs bz e' l]=[T.bld (.pointer (some ⟨g,0,none⟩)) bs bz e' l]:=by simp[ht,oN]
    rw[y2];unfold oA;rw[gA];refine(hw g w p ah l ak ly).mono ?_;rintro DR w' ⟨rfl,pC⟩;have bU:g<w.heap.size:=(bL.1 ak).1;have yM:M g=none:=Cz dI ((rV g).2 (.inl rfl));have hL:w'.heap[g]?=some (.cells #[p,ah] bz (0,0)):=(pC.block g bU λe=>cI e.symm).trans ak;have tk:fE M w':=λk o aj=>by
     have hC:=eE k o aj;rw[pC.block k (eE.lt aj) (λe=>by rw[Cz dI ((rV k).2 (.inr e.symm))]at aj;cases aj)];exact hC
    have op:p.oneCell'=true:=by rcases af with rfl|rfl<;>rfl
    have Pk:ah.oneCell'=true:=by
     rcases ly.2 with⟨rfl,_⟩|⟨k,cap,cur,rfl,_⟩<;>rfl
    refine⟨M,.leaf (.lit (.string ⟨l.toArray⟩)) (.string ⟨l.toArray⟩),[.box g bz [.leaf .undef p,.leaf .undef ah]],rfl,rfl,trivial,⟨rfl,rfl⟩,rfl,?_,rfl,?_,tk,?_⟩
    .intro o an;obtain rfl:=aA.1 an;exact⟨⟨trivial,trivial,trivial⟩,.inl ⟨rfl,op⟩,.inl ⟨rfl,Pk⟩,trivial⟩
    .simp only[T.blocks,T.bq,T.bP,T.val,b5,bo];refine⟨by simp,?_,?_⟩
     .intro x U;obtain rfl:=aA.1 U;exact hL
     .intro x U;obtain rfl:=aA.1 U;exact yM
    .refine ⟨pC.os,pC.tape,pC.output,pC.size,λk aj y3=>?_,Mem.le_refl M,λ_ _ h=>.inl h,λk aj=>?_⟩
     .exact pC.block k aj λe=>y3 ((rV k).2 (.inr e.symm))
     .simp only[T.blocks,T.bq,keys,b5,bo,a6,ba,aA]at aj;exact .inl ((rV k).2 (.inl aj))
  .cases h
 .cases h
end Go.aS
