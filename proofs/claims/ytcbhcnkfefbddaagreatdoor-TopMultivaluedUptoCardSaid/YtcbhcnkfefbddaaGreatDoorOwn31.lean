/- An interpreter of function bodies, sound. No conditions. -/
import Derived.ChangeSame
import Derived.RowKit
import Derived.Lib.JoinLaws
import Derived.Test.YtcbhcnkfefbddaaGreatDoorOwn28
import Derived.Test.YtcbhcnkfefbddaaGreatDoorOwn26
import Derived.Test.YtcbhcnkfefbddaaGreatDoorOwn29
set_option linter.all false
open List renaming mem_singleton->aA,append_nil->aM

namespace Go.aS
open D Go.ChangeShapes Go.RowKit
def DA(P:Program)(k:Nat)(t:TypeId)(d:D):Prop:=
 match P.underlying t with
 |some (.struct _)=>∃az,d=.agg az/\jE P k t az
 |some (.array _ _)=>∃az,d=.agg az/\jE P k t az
 |_=>jE P k t [d]
def yg(P:Program)(k:Nat):List TypeId->List D->Prop
 |[],az=>az=[]
 |t::ts,az=>∃d m9,az=d::m9/\DA P k t d/\yg P k ts m9
theorem Q2{E:Env}{f:Nat}:∀(ts:List T)(i:Nat),(∀j,E.mode f j≠.eF)->ht E f i ts=[]
 |[],_,_=>rfl
 |t::ts,i,h=>by simp[ht,h i,Q2 ts (i+1) h]
end Go.aS
namespace Go.aS
open Go.Lib Go.RowKit
theorem J_{P:Program}{w:World}{k n c b off:Nat}{news:List Value}(hl:news.length=n*k)(ad:∀j u,news[j]?=some u->w.cell? ⟨b,off+j,none⟩=some u):yr P w k n (.slice (some ⟨b,off,none⟩) n c) news:=
 ⟨hl,λw'=>by simp[Builtin.lenOf],λw' hw=>run_firstCells_some (P:=P) w' k n ⟨b,off,none⟩ n c news hl (λj u aH=>by
  rw[Addr.add_lit];have:=ad j u aH;unfold World.cell? at this⊢
  rw[hw];exact this)⟩
theorem J4{P:Program}{w:World}{ops:Array Oper}{rest:List Oper}{o:Oper}{a:Act}{Q:Exit->Act->World->Prop}(ef:o.guard=none)(s x:Operand)(t e:TypeId)
  (an:o.op=.call { callee:=.builtin .append,args:=#[s,x],argTypes:=#[t,t] }) (i:TypeInfo) (z:Value) (al:P.underlying t=some (.slice e)) (hi:P.info? e=some i) (aG:i.zero=some z)
  (base:Option Addr) (ae:a.eval s=.slice base 0 0) (y:Value) (U:a.eval x=y) (m:Nat) (news:List Value) (aw:yr P w i.size m y news) (hm:0<m) (It:m<=maxLen) (dM:m*i.bytes<=140737488355328) (lJ:Nat->Array Value) (kZ:∀m,Builtin.zeroCells z.cells m=lJ m)
  (h:∀cap,m<=cap->cap<=maxLen->wpList P ops Q rest (a.put o.dst (.slice (some ⟨w.heap.size,0,none⟩) m cap)) (w.drew.alloc (.cells (news.toArray++lJ (cap-m)) e))):wpList P ops Q (o::rest) a w:=by
 refine wpList_plain ef λK dA=>?_;have hu:nw P t=true:=by unfold nw;rw[al]
 have hr:=JY (ty:=o.type) (base:=base) (sLen:=0) (sCap:=0) (olds:=[]) al hu hi aG aw (λw' _=>by
  cases base with
  |none=>simp[Builtin.firstCells]
  |some b=>exact run_firstCells_some (P:=P) w' i.size 0 b 0 0 [] (by simp) (by intro j v h;simp at h)) (by omega) (by unfold maxLen at It;omega) (growslice_fits (by omega) (by rw[Nat.zero_add];exact dM))
 unfold Oper.wp execOp;simp only[Nat.zero_add]at hr;simp only[an,resolve,invoke,builtin,Sem.run_bind,Sem.run_pure,Result.andThen_ok,List.map_toArray,List.map_cons,List.map_nil,ae,U,hr];refine dA _ _ ?_;have:=h (grownCap w m 0 e) (grownCap_ge w m 0 e) (grownCap_le_maxLen w m 0 e It);rw[kZ];simpa using this
structure Hm(P:Program)(f e k by_:Nat)(z:Value):Prop where
 some_:∀(b off n c:Nat)(news:List Value)(w:World),news.length=n*k->0<n->n<=maxLen->n*by_<=140737488355328->(∀j u,news[j]?=some u->w.cell? ⟨b,off+j,none⟩=some u) ->
  Calls P f #[.slice (some ⟨b,off,none⟩) n c] w λq w'=>∃g cap,q=.returned (.slice (some ⟨g,0,none⟩) n cap)/\w.heap.size<=g/\n<=cap/\cap<=maxLen/\w'.heap[g]?=some (.cells (news.toArray++Builtin.zeroCells z.cells (cap-n)) e (0,0))/\Below w.heap.size w w'
 nil:∀(n c:Nat)(w:World),Calls P f #[.slice none n c] w λq w'=>q=.returned (.slice none 0 0)/\w'=w
 zero:∀(a:Addr)(c:Nat)(w:World),Calls P f #[.slice (some a) 0 c] w λq w'=>q=.returned (.slice (some ⟨w.heap.size,0,none⟩) 0 0)/\w'.heap[w.heap.size]?=some (.cells #[] e (0,0))/\Below w.heap.size w w'
 Yb:z.cells.size=k
 ar:∀u∈z.cells.toList,u.oneCell'=true
 OS:0<k
theorem Kj{E:Env}{f e k by_:Nat}{z:Value}(oN:E.mode f 0≠.eF)(gA:∀args w,(callFunc f args).run E.P w=.ok (.enter f args) w)(ad:Hm E.P f e k by_ z)
  {az:List D} {r:D} {outs:List D} (h:zS k by_ az=some (r,outs)):sO E f az r outs:=by
 unfold zS at h
 split at h
 .rename_i es
  split at h
  .rename_i ao;obtain⟨fH,nb⟩:=ao;simp only[aE,Prod.mk.injEq]at h;obtain⟨rfl,rfl⟩:=h;intro M w ts e3 qP Eo dI eE ef;rcases ts with _|⟨t1,_|⟨t2,rs⟩⟩
   case nil=>simp at e3
   case cons.cons=>simp at e3
   .simp only[List.map_cons,List.map_nil,List.cons.injEq,and_true]at e3;obtain⟨v,rfl⟩:∃v,t1=.leaf (.sl es) v:=by
     cases t1 with
     |leaf d v=>simp only[T.erase]at e3;subst e3;exact⟨v,rfl⟩
     |_=>simp[T.erase]at e3
    have ak:bu M (.sl es) v:=(qP (.leaf (.sl es) v) (by simp)).2;have y2:ht E f 0 [T.leaf (.sl es) v]=[]:=by simp[ht,oN]
    rw[y2];unfold oA;rw[gA];obtain⟨A,c,g_,rfl,It,fk,e6,ng,c2⟩:=Gn eE ak;have N6:=JW e6 ng (by rw[fk];exact LX ak);have tk:∀{w':World},Below w.heap.size w w'->fE M w':=λag g o Wd=>by rw[ag.block g (eE.lt Wd)];exact eE g o Wd
    have Vh:∀{w':World}{B:List Nat},Below w.heap.size w w'->(∀g∈B,w.heap.size<=g)->cN M (keys (T.bq [T.leaf (.sl es) (.slice A es.length c)])) w M B w':=λag cg=>
     ⟨ag.os,ag.tape,ag.output,ag.size,λg ak _=>ag.block g ak,Mem.le_refl M,λ_ _ h=>.inl h,λg ak=>.inr (cg g ak)⟩
    show Calls E.P f #[.slice A es.length c] w _;by_cases aO:es=[]
    .subst aO;cases A with
     |none=>
      refine Calls.mono (ad.nil _ c w) ?_;rintro q w' ⟨rfl,rfl⟩;refine⟨M,.nil,[],rfl,rfl,trivial,trivial,rfl,by simp,rfl,?_,eE,?_⟩
      .exact dT.nil _ _
      .exact cN.mf _ _ (by simp[T.blocks,T.bq,keys])
     |some a=>
      refine Calls.mono (ad.zero a c w) ?_;rintro q w' ⟨rfl,n5,ag⟩;refine⟨M,.own w.heap.size 0 e [] [],[],rfl,rfl,by simp[T.tidy,T.iv],?_,rfl,by simp,rfl,?_,tk ag,?_⟩
      .simp only[lP,dV,T.wf,T.ha];exact⟨⟨k,ad.OS,by simp,by simp⟩,⟨by simp,by simp⟩,by simp,by simp,trivial⟩
      .refine ⟨?_,?_,?_⟩
       .simp [T.blocks,T.bq,T.cO]
       .intro x U;simp only[T.blocks,T.bq,T.cO,T.bH,aM,aA]at U;subst U;exact n5
       .intro x U;simp only[T.blocks,T.bq,T.cO,T.bH,aM,aA]at U;subst U;cases bW:M w.heap.size with
        |none=>rfl
        |some o=>exact absurd (eE.lt bW) (Nat.lt_irrefl _)
      .exact Vh ag (by simp[T.blocks,T.bq,T.cO,keys])
    .rcases c2 with I|⟨yG,km,k',rfl,jJ,iU,n6⟩
     .exact absurd I aO
     .have l4:∀x∈g_,x.length=k:=λx U=>by
       have:=fH (x.map T.erase) (by rw[<-fk];exact List.mem_map.2 ⟨x,U,rfl⟩);simpa using this
      have hlen:g_.length=es.length:=by rw[<-fk,List.length_map]
      have oS:(T.bH g_).length=es.length*k:=by rw[kg l4,hlen]
      have N_:0<es.length:=List.length_pos_iff.2 aO;refine Calls.mono (ad.some_ yG km es.length c (T.bH g_) w oS N_ It nb n6) ?_;rintro q w' ⟨g,cap,rfl,gz,Bc,jx,n5,ag⟩;have dI:T.blocks (.own g cap e (Builtin.zeroCells z.cells (cap-es.length)).toList g_)=[(g,.cells (T.bH g_++(Builtin.zeroCells z.cells (cap-es.length)).toList).toArray e (0,0))]:=by
       simp only[T.blocks,N6]
      have iF:(Builtin.zeroCells z.cells (cap-es.length)).toList=(List.replicate (cap-es.length) z.cells.toList).flatten:=by
       rw[Cn];have:=xM z.cells (by rw[ad.Yb];exact ad.OS) (cap-es.length);exact this
      refine⟨M,.own g cap e (Builtin.zeroCells z.cells (cap-es.length)).toList g_,[],by simp[T.val,hlen],by rw[<-fk,<-T.lU];rfl,by simpa[T.tidy]using e6,?_,rfl,by simp,rfl,?_,tk ag,?_⟩
      .simp only[lP,dV,T.wf];refine⟨⟨k,ad.OS,l4,?_⟩,⟨by omega,by omega⟩,jx,?_,ng⟩
       .rw [iF,hlen];simp only[List.length_flatten,List.map_replicate,List.sum_replicate_nat];have:z.cells.toList.length=k:=by simpa using ad.Yb
        rw[this,<-Nat.add_mul];congr 1;omega
       .intro u hu;rw[iF]at hu;obtain⟨l,hl,hu⟩:=List.mem_flatten.1 hu;rw[List.eq_of_mem_replicate hl]at hu;exact ad.ar u hu
      .rw [dI];have aiA:w'.heap[g]?=some (.cells (T.bH g_++(Builtin.zeroCells z.cells (cap-es.length)).toList).toArray e (0,0)):=by
        rw[n5];exact congrArg (λA=>some (Obj.cells A e (0,0))) (Array.ext' (by simp))
       refine⟨by simp[T.bq],?_,?_⟩
       .intro x U;simp only[T.bq,aM,aA]at U;subst U;exact aiA
       .intro x U;simp only[T.bq,aM,aA]at U;subst U;cases bW:M g with
        |none=>rfl
        |some o=>exact absurd (eE.lt bW) (by omega)
      .rw [dI];exact Vh ag (by simp[T.bq,keys];exact gz)
  .cases h
 .cases h
end Go.aS
