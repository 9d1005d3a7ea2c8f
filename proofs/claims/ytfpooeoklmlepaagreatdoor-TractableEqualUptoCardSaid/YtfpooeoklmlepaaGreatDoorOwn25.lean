/- No conditions. -/
import Derived.Lib.LaidTab
import Derived.ChangeSame
import Derived.RowKit
import Derived.Lib.JoinLaws
import Derived.Test.YtfpooeoklmlepaaGreatDoorOwn23
import Derived.Test.YtfpooeoklmlepaaGreatDoorOwn13
import Derived.Test.YtfpooeoklmlepaaGreatDoorOwn18
import Derived.Test.YtfpooeoklmlepaaGreatDoorOwn7
import Derived.Test.YtfpooeoklmlepaaGreatDoorOwn24
set_option linter.all false
open List renaming mem_singleton->zA,append_nil->zB,map_cons->zC,mem_cons_self->zD,map_nil->zE,not_mem_nil->zF,mem_cons->zG,nil_append->zL
open Array renaming getElem?_eq_some_iff->zH
open List.cons renaming injEq->zI
open Prod.mk renaming injEq->zK
namespace Go.Own
open D Go.Lib
theorem good_of_tab{E:Env}{P:Program}{W:World}{name:String}{g:Nat}(hE:E.good=Avz g)(hg:P.globalNamed name=some g)(h:TabIs P W name .u8 (zeroTab.map fun(x:Nat)=>(x:Int))):Good E (fun g=>W.heap[g]?):=by
 intro M' hM;rw[hE];have hc:∀i,i<zeroTab.length->W.cell? ⟨g,i,none⟩=some (.int .u8 ((zeroTab.map fun(x:Nat)=>(x:Int)).getD i 0)):=fun i hi=>h.cell hg i (by simpa using hi);have h0:=hc 0 (by decide);unfold World.cell? at h0;cases ho:W.heap[g]? with
 |none=>rw[ho]at h0;cases h0
 |some o=>
  cases o with
  |cells cs e fr=>
   refine⟨cs,e,fr,hM g _ ho,fun i x hx=>?_⟩;have hi:i<zeroTab.length:=(List.getElem?_eq_some_iff.1 hx).1;have:=hc i hi;unfold World.cell? at this;rw[ho]at this;simp only[Option.isSome_none,Bool.false_eq_true,if_false]at this;rw[this];simp[List.getD,hx]
  |_=>rw[ho]at h0;simp at h0
end Go.Own

namespace Go.Own
open D Go.Lib
def Azg(P:Program)(f t e:Nat):Prop:=∀(b:Nat)(w:World)(p v:Value)(n:Nat)(xs:List Value)(s:ByteArray),w.heap[b]?=some (.cells #[p,v] t (0,0))->(p=.pointer none∨p=.pointer (some ⟨b,0,none⟩)) ->
 w.ownsRow 0 e 1 v n xs->v.ownBlock≠some b->n+s.size<=140737488355328 ->
 Calls P f #[.pointer (some ⟨b,0,none⟩),.string s] w fun en w'=>en=.returned (.tuple #[.int .i64 s.size,.nilIface]) /\
  ∃v',w'.heap[b]?=some (.cells #[.pointer (some ⟨b,0,none⟩),v'] t (0,0))/\w'.ownsRow 0 e 1 v' (n+s.size) (xs++strCells s)/\(∀k,v'.ownBlock=some k->v.ownBlock=some k∨w.heap.size<=k) /\
   w'.os=w.os/\w'.tape=w.tape/\w'.output=w.output/\w.heap.size<=w'.heap.size/\∀k,k<w.heap.size->k≠b->v.ownBlock≠some k->w'.heap[k]?=w.heap[k]?
def Awe(P:Program)(f t e:Nat):Prop:=∀(b:Nat)(w:World)(p v:Value)(l:List UInt8),w.heap[b]?=some (.cells #[p,v] t (0,0)) ->
 w.ownsRow 0 e 1 v l.length (l.map fun c=>Value.int .u8 c.toNat) ->
 Calls P f #[.pointer (some ⟨b,0,none⟩)] w fun en w'=>en=.returned (.string ⟨l.toArray⟩)/\w.grownBy w' v.ownBlock
theorem Ahc{M:Mem}{w:World}{B:List (Nat×Obj)}(h:BlkOK M w B){k:Nat}(hk:k∈keys B):M k=none:=by
 obtain⟨x,hx,rfl⟩:=List.mem_map.1 hk;exact h.apart x hx
theorem Au9{M:Mem}{w:World}{v:Value}{bs:List (Nat×Obj)}{t e:Nat}{l:List UInt8}(h:T.BldOK v bs t e l)(hb:BlkOK M w bs):
  ∃g p h,v=.pointer (some ⟨g,0,none⟩)/\(p=.pointer none∨p=.pointer (some ⟨g,0,none⟩))/\w.heap[g]?=some (.cells #[p,h] t (0,0))/\w.ownsRow 0 e 1 h l.length (l.map fun c=>Value.int .u8 c.toNat)/\h.ownBlock≠some g /\
   ∀k,k∈keys bs↔k=g∨h.ownBlock=some k:=by
 obtain⟨g,p,rfl,hp,⟨rfl,rfl⟩|⟨b,cap,cur,rfl,h1,h2,h3,h4⟩⟩:=h
 .refine ⟨g,p,_,rfl,hp,hb.heap (g,_) zD,⟨by simp,.inl ⟨rfl,rfl⟩⟩,by simp[Value.ownBlock],fun k=>by simp[keys,Value.ownBlock]⟩
 .have hn:=hb.nodup;simp only[zC,zE,List.nodup_cons,zA,zF,not_false_eq_true,List.nodup_nil,and_true]at hn;refine⟨g,p,_,rfl,hp,hb.heap (g,_) zD,⟨by simp,.inr ⟨b,cap,cur,rfl,Nat.zero_le _,hb.heap (b,_) (List.mem_cons_of_mem _ zD),h1,h2,by omega,by simpa using h4⟩⟩,?_,fun k=>?_⟩
  .intro e;have e2:some b=some g:=e;exact hn (Option.some.inj e2).symm
  .simp only[keys,zC,zE,zG,zF,or_false,Value.ownBlock,zJ];constructor<;>rintro(h|h)<;>simp[h]
theorem Aum{t:T}(ht:t.tidy){a b:Nat}{l:List UInt8}(h:t.erase=.bld a b l):∃v bs,t=.bld v bs a b l:=by
 cases t with
 |leaf d v=>simp only[T.erase]at h;subst h;simp[T.tidy]at ht
 |bld v bs t e l'=>simp only[T.erase,D.bld.injEq]at h;obtain⟨rfl,rfl,rfl⟩:=h;exact⟨v,bs,rfl⟩
 |_=>simp[T.erase]at h
theorem Bcs{M:Mem}{t:T}(hg:Giv M t){u:Value}(h:t.erase=.lit u):t=.leaf (.lit u) u:=by
 cases t with
 |leaf d v=>
  simp only[T.erase]at h;subst h;have hg:RI M (.lit u) v:=hg;simp only[RI]at hg;rw[hg.1]
 |_=>simp[T.erase]at h
theorem Bb1{E:Env}{f t e:Nat}(hm0:E.mode f 0=.inout)(hm1:E.mode f 1≠.inout)(hrun:∀args w,(callFunc f args).run E.P w=.ok (.enter f args) w)(hw:Azg E.P f t e){ds:List D}{r:D}{outs:List D}(h:Aip t e ds=some (r,outs)):
  FnOK E f ds r outs:=by
 unfold Aip at h
 split at h
 .rename_i t' e' l s
  split at h
  .rename_i hc;obtain⟨rfl,rfl,hlen⟩:=hc;simp only[zJ,zK]at h;obtain⟨rfl,rfl⟩:=h;intro M w ts hts htg hln hblk hmem hgd;rcases ts with _|⟨t1,_|⟨t2,_|⟨t3,rs⟩⟩⟩
   case nil=>simp at hts
   case cons.nil=>simp at hts
   case cons.cons.cons=>simp at hts
   .simp only[zC,zE,zI,and_true]at hts;obtain⟨v,bs,rfl⟩:=Aum (htg t1 (by simp)).1 hts.1;obtain rfl:=Bcs (htg t2 (by simp)).2 hts.2;have hb:T.BldOK v bs t' e' l:=(htg (T.bld v bs t' e' l) zD).2;simp only[T.blocksC,T.blocks,zB]at hblk⊢;obtain⟨g,p,hd,rfl,hp,hg,hown,hne,hkeys⟩:=Au9 hb hblk;have hlents:Ab5 E f 0 [T.bld (.pointer (some ⟨g,0,none⟩)) bs t' e' l,T.leaf (.lit (.string s)) (.string s)]=[T.bld (.pointer (some ⟨g,0,none⟩)) bs t' e' l]:=by simp[Ab5,hm0,hm1]
    rw[hlents];unfold Does;rw[hrun];refine(hw g w p hd l.length _ s hg hp hown hne hlen).mono ?_;rintro en w' ⟨rfl,v',hg',hown',hnew,ho,htp,hout,hsz,hrest⟩;have hlt:g<w.heap.size:=(zH.1 hg).1;have hMg:M g=none:=Ahc hblk ((hkeys g).2 (.inl rfl));have hMk:∀k,v'.ownBlock=some k->M k=none:=fun k hk=>by
     rcases hnew k hk with h|h
     .exact Ahc hblk ((hkeys k).2 (.inr h))
     .cases hM:M k with
      |none=>rfl
      |some o=>have:=hmem.lt hM;omega
    have hgk:∀k,v'.ownBlock=some k->k≠g:=fun k hk e=>by
     rcases hnew k hk with h|h
     .exact hne (by rw[h,e])
     .omega
    have hmem':Aaz M w':=fun k o hk=>by
     have hk1:=hmem k o hk;rw[hrest k (hmem.lt hk) (fun e=>by rw[e,hMg]at hk;cases hk) (fun e=>by rw[Ahc hblk ((hkeys k).2 (.inr e))]at hk;cases hk)];exact hk1
    have hcells:(l++s.data.toList).map (fun c=>Value.int .u8 c.toNat)=l.map (fun c=>Value.int .u8 c.toNat)++strCells s:=by simp[strCells]
    have hsl:(l++s.data.toList).length=l.length+s.size:=by rw[List.length_append,Array.length_toList];rfl
    rw[<-hcells,<-hsl]at hown';have build:∀bs':List (Nat×Obj),T.BldOK (.pointer (some ⟨g,0,none⟩)) bs' t' e' (l++s.data.toList)->BlkOK M w' bs'->(∀k∈keys bs',k=g∨v'.ownBlock=some k) ->
      ∃M' tr touts,Ending.returned (.tuple #[.int .i64 s.size,.nilIface])=.returned (T.val tr)/\tr.erase=D.tup [D.lit (.int .i64 s.size),D.lit .nilIface]/\tr.tidy/\Ado M' tr/\touts.map T.erase=[D.bld t' e' (l++s.data.toList)]/\(∀o∈touts,o.tidy/\T.wf M' o) /\
       T.vals touts=T.vals [T.bld (.pointer (some ⟨g,0,none⟩)) bs t' e' l]/\BlkOK M' w' (tr.blocks++T.blocksC touts)/\Aaz M' w'/\Evo M (keys bs) w M' (keys (tr.blocks++T.blocksC touts)) w':=by
     intro bs' h1 h2 h3;refine⟨M,.tup [.leaf (.lit (.int .i64 s.size)) (.int .i64 s.size),.leaf (.lit .nilIface) .nilIface],[.bld (.pointer (some ⟨g,0,none⟩)) bs' t' e' (l++s.data.toList)],rfl,rfl,⟨trivial,trivial,trivial⟩,?_,rfl,?_,rfl,?_,hmem',?_⟩
     .intro c hc;simp only[zG,zF,or_false]at hc;rcases hc with rfl|rfl
      .exact ⟨rfl,rfl⟩
      .exact ⟨rfl,rfl⟩
     .intro o ho;obtain rfl:=zA.1 ho;exact⟨trivial,h1⟩
     .simpa [T.blocks,T.blocksC]using h2
     .have hkk:keys ((T.tup [T.leaf (.lit (.int .i64 s.size)) (.int .i64 s.size),T.leaf (.lit .nilIface) .nilIface]).blocks++T.blocksC [T.bld (.pointer (some ⟨g,0,none⟩)) bs' t' e' (l++s.data.toList)])=keys bs':=by simp[T.blocks,T.blocksC]
      rw[hkk];refine⟨ho,htp,hout,hsz,fun k hk hnk=>?_,Mem.le_refl M,fun _ _ h=>.inl h,fun k hk=>?_⟩
      .have:=mt (hkeys k).2 hnk;exact hrest k hk (fun e=>this (.inl e)) (fun e=>this (.inr e))
      .rcases h3 k hk with rfl|h
       .exact .inl ((hkeys k).2 (.inl rfl))
       .rcases hnew k h with h|h
        .exact .inl ((hkeys k).2 (.inr h))
        .exact .inr h
    rcases hown'.2 with⟨rfl,hn0⟩|⟨k,cap,cur,rfl,_,hk,hnc,hcm,hcs,htake⟩
    .have hl0:l++s.data.toList=[]:=List.eq_nil_of_length_eq_zero hn0;refine build [(g,.cells #[.pointer (some ⟨g,0,none⟩),.slice none 0 0] t' (0,0))] ⟨g,_,rfl,.inr rfl,.inl ⟨hl0,rfl⟩⟩ ⟨by simp,?_,?_⟩ (by simp[keys])
     .intro x hx;obtain rfl:=zA.1 hx;exact hg'
     .intro x hx;obtain rfl:=zA.1 hx;exact hMg
    .have hkg:=hgk k rfl;refine build [(g,.cells #[.pointer (some ⟨g,0,none⟩),.slice (some ⟨k,0,none⟩) (l++s.data.toList).length cap] t' (0,0)),(k,.cells cur e' (0,0))]
      ⟨g,_,rfl,.inr rfl,.inr ⟨k,cap,cur,rfl,hnc,hcm,by omega,by simpa using htake⟩⟩ ⟨by simpa using fun e=>hkg e.symm,?_,?_⟩ (by simp[keys,Value.ownBlock])
     .intro x hx;simp only[zG,zF,or_false]at hx;rcases hx with rfl|rfl
      .exact hg'
      .exact hk
     .intro x hx;simp only[zG,zF,or_false]at hx;rcases hx with rfl|rfl
      .exact hMg
      .exact hMk k rfl
  .cases h
 .cases h
theorem Ayz{E:Env}{f t e:Nat}(hm0:E.mode f 0=.inout)(hrun:∀args w,(callFunc f args).run E.P w=.ok (.enter f args) w)(hw:Awe E.P f t e){ds:List D}{r:D}{outs:List D}(h:Ahh t e ds=some (r,outs)):
  FnOK E f ds r outs:=by
 unfold Ahh at h
 split at h
 .rename_i t' e' l
  split at h
  .rename_i hc;obtain⟨rfl,rfl⟩:=hc;simp only[zJ,zK]at h;obtain⟨rfl,rfl⟩:=h;intro M w ts hts htg hln hblk hmem hgd;rcases ts with _|⟨t1,_|⟨t2,rs⟩⟩
   case nil=>simp at hts
   case cons.cons=>simp at hts
   .simp only[zC,zE,zI,and_true]at hts;obtain⟨v,bs,rfl⟩:=Aum (htg t1 (by simp)).1 hts;have hb:T.BldOK v bs t' e' l:=(htg (T.bld v bs t' e' l) zD).2;simp only[T.blocksC,T.blocks,zB]at hblk⊢;obtain⟨g,p,hd,rfl,hp,hg,hown,hne,hkeys⟩:=Au9 hb hblk;have hlents:Ab5 E f 0 [T.bld (.pointer (some ⟨g,0,none⟩)) bs t' e' l]=[T.bld (.pointer (some ⟨g,0,none⟩)) bs t' e' l]:=by simp[Ab5,hm0]
    rw[hlents];unfold Does;rw[hrun];refine(hw g w p hd l hg hown).mono ?_;rintro en w' ⟨rfl,hgr⟩;have hlt:g<w.heap.size:=(zH.1 hg).1;have hMg:M g=none:=Ahc hblk ((hkeys g).2 (.inl rfl));have hg':w'.heap[g]?=some (.cells #[p,hd] t' (0,0)):=(hgr.block g hlt fun e=>hne e.symm).trans hg;have hmem':Aaz M w':=fun k o hk=>by
     have hk1:=hmem k o hk;rw[hgr.block k (hmem.lt hk) (fun e=>by rw[Ahc hblk ((hkeys k).2 (.inr e.symm))]at hk;cases hk)];exact hk1
    have op:p.oneCell'=true:=by rcases hp with rfl|rfl<;>rfl
    have oh:hd.oneCell'=true:=by
     rcases hown.2 with⟨rfl,_⟩|⟨k,cap,cur,rfl,_⟩<;>rfl
    refine⟨M,.leaf (.lit (.string ⟨l.toArray⟩)) (.string ⟨l.toArray⟩),[.box g t' [.leaf .undef p,.leaf .undef hd]],rfl,rfl,trivial,⟨rfl,rfl⟩,rfl,?_,rfl,?_,hmem',?_⟩
    .intro o ho;obtain rfl:=zA.1 ho;exact⟨⟨trivial,trivial,trivial⟩,.inl ⟨rfl,op⟩,.inl ⟨rfl,oh⟩,trivial⟩
    .simp only[T.blocks,T.blocksC,T.vals,T.val,zL,zB];refine⟨by simp,?_,?_⟩
     .intro x hx;obtain rfl:=zA.1 hx;exact hg'
     .intro x hx;obtain rfl:=zA.1 hx;exact hMg
    .refine ⟨hgr.os,hgr.tape,hgr.output,hgr.size,fun k hk hnk=>?_,Mem.le_refl M,fun _ _ h=>.inl h,fun k hk=>?_⟩
     .exact hgr.block k hk fun e=>hnk ((hkeys k).2 (.inr e.symm))
     .simp only[T.blocks,T.blocksC,keys,zL,zB,zC,zE,zA]at hk;exact .inl ((hkeys k).2 (.inl hk))
  .cases h
 .cases h
end Go.Own

namespace Go.Own
open D Go.ChangeShapes Go.RowKit
def TyA(P:Program)(k:Nat)(t:TypeId)(d:D):Prop:=
 match P.underlying t with
 |some (.struct _)=>∃ds,d=.agg ds/\Ty P k t ds
 |some (.array _ _)=>∃ds,d=.agg ds/\Ty P k t ds
 |_=>Ty P k t [d]
def Am5(P:Program)(k:Nat):List TypeId->List D->Prop
 |[],ds=>ds=[]
 |t::ts,ds=>∃d ds',ds=d::ds'/\TyA P k t d/\Am5 P k ts ds'
theorem Aps{E:Env}{f:Nat}:∀(ts:List T)(i:Nat),(∀j,E.mode f j≠.inout)->Ab5 E f i ts=[]
 |[],_,_=>rfl
 |t::ts,i,h=>by simp[Ab5,h i,Aps ts (i+1) h]
end Go.Own
namespace Go.Own
open Go.Lib Go.RowKit
theorem Apn{P:Program}{w:World}{k n c b off:Nat}{news:List Value}(hl:news.length=n*k)(hc:∀j u,news[j]?=some u->w.cell? ⟨b,off+j,none⟩=some u):Gives P w k n (.slice (some ⟨b,off,none⟩) n c) news:=
 ⟨hl,fun w'=>by simp[Builtin.lenOf],fun w' hw=>run_firstCells_some (P:=P) w' k n ⟨b,off,none⟩ n c news hl (fun j u hj=>by
  rw[Addr.add_lit];have:=hc j u hj;unfold World.cell? at this⊢
  rw[hw];exact this)⟩
theorem Aom{P:Program}{w:World}{ops:Array Oper}{rest:List Oper}{o:Oper}{a:Act}{Q:Exit->Act->World->Prop}(hgd:o.guard=none)(s x:Operand)(t e:TypeId)
  (ho:o.op=.call { callee:=.builtin .append,args:=#[s,x],argTypes:=#[t,t] }) (i:TypeInfo) (z:Value) (ht:P.underlying t=some (.slice e)) (hi:P.info? e=some i) (hz:i.zero=some z)
  (base:Option Addr) (hs:a.eval s=.slice base 0 0) (y:Value) (hx:a.eval x=y) (m:Nat) (news:List Value) (hy:Gives P w i.size m y news) (hm:0<m) (hmx:m<=maxLen) (hfit:m*i.bytes<=140737488355328) (zc:Nat->Array Value) (hzc:∀m,Builtin.zeroCells z.cells m=zc m)
  (h:∀cap,m<=cap->cap<=maxLen->wpList P ops Q rest (a.put o.dst (.slice (some ⟨w.heap.size,0,none⟩) m cap)) (w.drew.alloc (.cells (news.toArray++zc (cap-m)) e))):wpList P ops Q (o::rest) a w:=by
 refine wpList_plain hgd fun K hK=>?_;have hu:rowT P t=true:=by unfold rowT;rw[ht]
 have hr:=Ao4 (ty:=o.type) (base:=base) (sLen:=0) (sCap:=0) (olds:=[]) ht hu hi hz hy (fun w' _=>by
  cases base with
  |none=>simp[Builtin.firstCells]
  |some b=>exact run_firstCells_some (P:=P) w' i.size 0 b 0 0 [] (by simp) (by intro j v h;simp at h)) (by omega) (by unfold maxLen at hmx;omega) (growslice_fits (by omega) (by rw[Nat.zero_add];exact hfit))
 unfold Oper.wp execOp;simp only[Nat.zero_add]at hr;simp only[ho,resolve,invoke,builtin,Sem.run_bind,Sem.run_pure,Result.andThen_ok,List.map_toArray,zC,zE,hs,hx,hr];refine hK _ _ ?_;have:=h (grownCap w m 0 e) (grownCap_ge w m 0 e) (grownCap_le_maxLen w m 0 e hmx);rw[hzc];simpa using this
structure CloneOK(P:Program)(f e k by_:Nat)(z:Value):Prop where
 some_:∀(b off n c:Nat)(news:List Value)(w:World),news.length=n*k->0<n->n<=maxLen->n*by_<=140737488355328->(∀j u,news[j]?=some u->w.cell? ⟨b,off+j,none⟩=some u) ->
  Calls P f #[.slice (some ⟨b,off,none⟩) n c] w fun q w'=>∃g cap,q=.returned (.slice (some ⟨g,0,none⟩) n cap)/\w.heap.size<=g/\n<=cap/\cap<=maxLen/\w'.heap[g]?=some (.cells (news.toArray++Builtin.zeroCells z.cells (cap-n)) e (0,0))/\Below w.heap.size w w'
 nil:∀(n c:Nat)(w:World),Calls P f #[.slice none n c] w fun q w'=>q=.returned (.slice none 0 0)/\w'=w
 zero:∀(a:Addr)(c:Nat)(w:World),Calls P f #[.slice (some a) 0 c] w fun q w'=>q=.returned (.slice (some ⟨w.heap.size,0,none⟩) 0 0)/\w'.heap[w.heap.size]?=some (.cells #[] e (0,0))/\Below w.heap.size w w'
 zk:z.cells.size=k
 z1:∀u∈z.cells.toList,u.oneCell'=true
 kp:0<k
theorem Aro{E:Env}{f e k by_:Nat}{z:Value}(hm0:E.mode f 0≠.inout)(hrun:∀args w,(callFunc f args).run E.P w=.ok (.enter f args) w)(hc:CloneOK E.P f e k by_ z)
  {ds:List D} {r:D} {outs:List D} (h:Aio k by_ ds=some (r,outs)):FnOK E f ds r outs:=by
 unfold Aio at h
 split at h
 .rename_i es
  split at h
  .rename_i hn;obtain⟨hall,hby⟩:=hn;simp only[zJ,zK]at h;obtain⟨rfl,rfl⟩:=h;intro M w ts hts htg hln hblk hmem hgd;rcases ts with _|⟨t1,_|⟨t2,rs⟩⟩
   case nil=>simp at hts
   case cons.cons=>simp at hts
   .simp only[zC,zE,zI,and_true]at hts;obtain⟨v,rfl⟩:∃v,t1=.leaf (.sl es) v:=by
     cases t1 with
     |leaf d v=>simp only[T.erase]at hts;subst hts;exact⟨v,rfl⟩
     |_=>simp[T.erase]at hts
    have hg:RI M (.sl es) v:=(htg (.leaf (.sl es) v) (by simp)).2;have hlents:Ab5 E f 0 [T.leaf (.sl es) v]=[]:=by simp[Ab5,hm0]
    rw[hlents];unfold Does;rw[hrun];obtain⟨A,c,tss,rfl,hmx,hes,htd,hwf,hA⟩:=Am2 hmem hg;have hnx:=Ajy htd hwf (by rw[hes];exact Atx hg);have hmem':∀{w':World},Below w.heap.size w w'->Aaz M w':=fun hb g o hgo=>by rw[hb.block g (hmem.lt hgo)];exact hmem g o hgo
    have evo:∀{w':World}{B:List Nat},Below w.heap.size w w'->(∀g∈B,w.heap.size<=g)->Evo M (keys (T.blocksC [T.leaf (.sl es) (.slice A es.length c)])) w M B w':=fun hb hB=>
     ⟨hb.os,hb.tape,hb.output,hb.size,fun g hg _=>hb.block g hg,Mem.le_refl M,fun _ _ h=>.inl h,fun g hg=>.inr (hB g hg)⟩
    show Calls E.P f #[.slice A es.length c] w _;by_cases h0:es=[]
    .subst h0;cases A with
     |none=>
      refine Calls.mono (hc.nil _ c w) ?_;rintro q w' ⟨rfl,rfl⟩;refine⟨M,.nil,[],rfl,rfl,trivial,trivial,rfl,by simp,rfl,?_,hmem,?_⟩
      .exact BlkOK.nil _ _
      .exact Evo.refl' _ _ (by simp[T.blocks,T.blocksC,keys])
     |some a=>
      refine Calls.mono (hc.zero a c w) ?_;rintro q w' ⟨rfl,hcell,hb⟩;refine⟨M,.own w.heap.size 0 e [] [],[],rfl,rfl,by simp[T.tidy,T.tidyE],?_,rfl,by simp,rfl,?_,hmem' hb,?_⟩
      .simp only[Ado,Giv,T.wf,T.wfE];exact⟨⟨k,hc.kp,by simp,by simp⟩,⟨by simp,by simp⟩,by simp,by simp,trivial⟩
      .refine ⟨?_,?_,?_⟩
       .simp [T.blocks,T.blocksC,T.blocksE]
       .intro x hx;simp only[T.blocks,T.blocksC,T.blocksE,T.valsE,zB,zA]at hx;subst hx;exact hcell
       .intro x hx;simp only[T.blocks,T.blocksC,T.blocksE,T.valsE,zB,zA]at hx;subst hx;cases hM:M w.heap.size with
        |none=>rfl
        |some o=>exact absurd (hmem.lt hM) (Nat.lt_irrefl _)
      .exact evo hb (by simp[T.blocks,T.blocksC,T.blocksE,keys])
    .rcases hA with h1|⟨g0,b0,k',rfl,hk0,hk',hcells⟩
     .exact absurd h1 h0
     .have hkk:∀x∈tss,x.length=k:=fun x hx=>by
       have:=hall (x.map T.erase) (by rw[<-hes];exact List.mem_map.2 ⟨x,hx,rfl⟩);simpa using this
      have hlen:tss.length=es.length:=by rw[<-hes,List.length_map]
      have hvl:(T.valsE tss).length=es.length*k:=by rw[Ab1 hkk,hlen]
      have hpos:0<es.length:=List.length_pos_iff.2 h0;refine Calls.mono (hc.some_ g0 b0 es.length c (T.valsE tss) w hvl hpos hmx hby hcells) ?_;rintro q w' ⟨g,cap,rfl,hge,hnc,hcm,hcell,hb⟩;have hblk:T.blocks (.own g cap e (Builtin.zeroCells z.cells (cap-es.length)).toList tss)=[(g,.cells (T.valsE tss++(Builtin.zeroCells z.cells (cap-es.length)).toList).toArray e (0,0))]:=by
       simp only[T.blocks,hnx]
      have hzl:(Builtin.zeroCells z.cells (cap-es.length)).toList=(List.replicate (cap-es.length) z.cells.toList).flatten:=by
       rw[Ag2];have:=Adk z.cells (by rw[hc.zk];exact hc.kp) (cap-es.length);exact this
      refine⟨M,.own g cap e (Builtin.zeroCells z.cells (cap-es.length)).toList tss,[],by simp[T.val,hlen],by rw[<-hes,<-T.eraseE_eq];rfl,by simpa[T.tidy]using htd,?_,rfl,by simp,rfl,?_,hmem' hb,?_⟩
      .simp only[Ado,Giv,T.wf];refine⟨⟨k,hc.kp,hkk,?_⟩,⟨by omega,by omega⟩,hcm,?_,hwf⟩
       .rw [hzl,hlen];simp only[List.length_flatten,List.map_replicate,List.sum_replicate_nat];have:z.cells.toList.length=k:=by simpa using hc.zk
        rw[this,<-Nat.add_mul];congr 1;omega
       .intro u hu;rw[hzl]at hu;obtain⟨l,hl,hu⟩:=List.mem_flatten.1 hu;rw[List.eq_of_mem_replicate hl]at hu;exact hc.z1 u hu
      .rw [hblk];have hcell':w'.heap[g]?=some (.cells (T.valsE tss++(Builtin.zeroCells z.cells (cap-es.length)).toList).toArray e (0,0)):=by
        rw[hcell];exact congrArg (fun A=>some (Obj.cells A e (0,0))) (Array.ext' (by simp))
       refine⟨by simp[T.blocksC],?_,?_⟩
       .intro x hx;simp only[T.blocksC,zB,zA]at hx;subst hx;exact hcell'
       .intro x hx;simp only[T.blocksC,zB,zA]at hx;subst hx;cases hM:M g with
        |none=>rfl
        |some o=>exact absurd (hmem.lt hM) (by omega)
      .rw [hblk];exact evo hb (by simp[T.blocksC,keys];exact hge)
  .cases h
 .cases h
end Go.Own
