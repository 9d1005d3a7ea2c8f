/- An interpreter of function bodies, sound. No conditions. -/
import Derived.ChangeSame
import Derived.RowKit
import Derived.Lib.JoinLaws
import Derived.Test.YtockohmmmlhhfabGreatDoorOwn27
import Derived.Test.YtockohmmmlhhfabGreatDoorOwn25
import Derived.Test.YtockohmmmlhhfabGreatDoorOwn28
set_option linter.all false

namespace Go.Own
open D Go.ChangeShapes Go.RowKit
def TyA (P:Program) (k:Nat) (t:TypeId) (d:D):Prop:=
 match P.underlying t with
 | some (.struct _)=>∃ ds,d=.agg ds/\Ty P k t ds
 | some (.array _ _)=>∃ ds,d=.agg ds/\Ty P k t ds
 | _=>Ty P k t [d]
def Aja (P:Program) (k:Nat):List TypeId->List D->Prop
 | [],ds=>ds=[]
 | t::ts,ds=>∃ d ds',ds=d::ds'/\TyA P k t d/\Aja P k ts ds'
theorem Bb2 {H:Type} {enc:TypeId×Value->H} {P:Program} {w:World} {base b0:Nat} {r:Reach} {sp:Nat->Bool} {held:Bool} {k:Nat} {t:TypeId} {v:Value} {d:DataW H} {ps:List MemPlace}
  (hp:Adp P k t=true) (hval:Value.okWide P w r b0 t v) (hd:DataW.Trod enc P w base sp held t v d ps) :
  ∃ tr:T,tr.val=v/\tr.tidy/\Giv (fun g=>w.heap[g]?) tr/\tr.blocks=[]/\TyA P k t tr.erase:=by
 obtain ⟨fuel,hf⟩:=hd;obtain ⟨ds,h1,h2⟩:=Aji k fuel t _ _ hp hf;have agg:(∃ cs,v=.agg cs)->∃ tr:T,tr.val=v/\tr.tidy/\Giv (fun g=>w.heap[g]?) tr/\tr.blocks=[]/\tr.erase=.agg ds:=by
  rintro ⟨cs,rfl⟩;obtain ⟨ts,b1,b2,b3,b4,b5⟩:=Aer h1;refine ⟨.agg ts,?_,b3,b4,?_,?_⟩
  ·simp [T.val,b2,Value.cells]
  ·simp only [T.blocks,T.blocksC_eq,List.flatMap_eq_nil_iff];exact b5
  ·simp only [T.erase,T.eraseC_eq,b1]
 have one:(∀ cs,v≠.agg cs)->∃ d,ds=[d]/\∃ tr:T,tr.val=v/\tr.tidy/\Giv (fun g=>w.heap[g]?) tr/\tr.blocks=[]/\tr.erase=d:=by
  intro hv;have hc:v.cells.toList=[v]:=by cases v<;>first | rfl | exact absurd rfl (hv _)
  rw [hc] at h1;have hl:=RCs.length h1
  match ds,hl,h1 with
  | [d],_,h1=>
   obtain ⟨ts,b1,b2,b3,b4,b5⟩:=Aer h1
   match ts,b1 with
   | [tr],b1=>
    simp only [List.map_cons,List.map_nil,List.cons.injEq,and_true] at b1;simp only [T.vals,List.cons.injEq,and_true] at b2;refine ⟨d,rfl,tr,b2,b3.1,?_,b5 tr (by simp),b1⟩;obtain ⟨_,_,e1,e2,_⟩:=h1;have hr:RI (fun g=>w.heap[g]?) d v:=by cases e1;exact e2
    refine Aca b4.1 ?_;rw [b1];rintro rfl;simp [RI] at hr
 unfold TyA;cases hu:P.underlying t with
 | none=>simp only [Value.okWide,hu,Cell.okWide,Cell.ok] at hval
 | some ty=>
  cases ty with
  | struct fs=>
   simp only [Value.okWide,hu] at hval;obtain ⟨cs,hv,_⟩:=hval;obtain ⟨tr,a,b,c,e,f⟩:=agg ⟨cs,hv⟩;exact ⟨tr,a,b,c,e,ds,f,h2⟩
  | array n e=>
   simp only [Value.okWide,hu] at hval;obtain ⟨cs,hv,_⟩:=hval;obtain ⟨tr,a,b,c,e,f⟩:=agg ⟨cs,hv⟩;exact ⟨tr,a,b,c,e,ds,f,h2⟩
  | _=>
   obtain ⟨d',rfl,tr,a,b,c,e,rfl⟩:=one fun cs hv=>by
    subst hv
    first
     | (simp only [Value.okWide,hu,Cell.okWide,Cell.ok] at hval;done)
     | (simp only [Value.okWide,hu,Cell.okWide,Cell.ok] at hval;exact hval)
   exact ⟨tr,a,b,c,e,h2⟩
theorem Ass {H:Type} {enc:TypeId×Value->H} {P:Program} {w:World} {base b0:Nat} {r:Reach} {sp:Nat->Bool} {held:Bool} {k:Nat} :
  ∀ (ts:List TypeId) (vs:List Value) (ds:List (DataW H)) (ps:List MemPlace),(∀ t∈ts,Adp P k t=true)->DataW.TrodAll enc P w base sp held ts vs ds ps ->
   (∀ (j:Nat) t v,ts[j]? = some t->vs[j]? = some v->Value.okWide P w r b0 t v) ->
   ∃ trs:List T,T.vals trs=vs/\(∀ t∈trs,t.tidy/\Giv (fun g=>w.heap[g]?) t)/\T.blocksC trs=[]/\Aja P k ts (trs.map T.erase)
 | [],vs,ds,ps,_,h,_=>by
  obtain ⟨rfl,rfl,rfl⟩:=trodAll_nil h;exact ⟨[],rfl,by simp,rfl,rfl⟩
 | t::ts,vs,ds,ps,hp,h,hv=>by
  obtain ⟨v,vs',d,ds',p,q,rfl,rfl,rfl,h1,h2⟩:=trodAll_cons h;obtain ⟨tr,a1,a2,a3,a4,a5⟩:=Bb2 (hp t (by simp)) (hv 0 t v rfl rfl) h1;obtain ⟨trs,b1,b2,b3,b4⟩:=Ass ts vs' ds' q (fun t ht=>hp t (by simp [ht])) h2 (fun j t v h3 h4=>hv (j+1) t v (by simpa using h3) (by simpa using h4));refine ⟨tr::trs,by simp [T.vals,a1,b1],?_,by simp [T.blocksC,a4,b3],_,_,rfl,a5,b4⟩;intro x hx;rcases List.mem_cons.1 hx with rfl | hx
  ·exact ⟨a2,a3⟩
  ·exact b2 x hx
theorem Aoc {E:Env} {f:Nat}:∀ (ts:List T) (i:Nat),(∀ j,E.mode f j≠.inout)->Aav E f i ts=[]
 | [],_,_=>rfl
 | t::ts,i,h=>by simp [Aav,h i,Aoc ts (i+1) h]
theorem Azh {H:Type} {enc:TypeId×Value->H} {E:Env} (hE:EnvOK E) {w:World} {base b0:Nat} {r:Reach} {sp:Nat->Bool} {held:Bool} {k f:Nat} {fd:Func} {c:Code}
  {ts:List TypeId} {args:Array Value} {ds:List (DataW H)} {ps:List MemPlace}
  (hf:E.P.funcs[f]? = some fd) (hn:E.prim f=none) (hb:fd.body=some c) (hmode:∀ j,E.mode f j≠.inout)
  (hp:∀ t∈ts,Adp E.P k t=true) (hd:DataW.TrodAll enc E.P w base sp held ts args.toList ds ps)
  (hv:∀ (j:Nat) t v,ts[j]? = some t->args[j]? = some v->Value.okWide E.P w r b0 t v)
  (hgd:Good E (fun g=>w.heap[g]?)) (contract:∀ xs,Aja E.P k ts xs->Ret E f xs (.lit (.bool true)) []) :
  Calls E.P f args w fun e w'=>e=.returned (.bool true)/\Below w.heap.size w w':=by
 obtain ⟨trs,h1,h2,h3,h4⟩:=Ass ts args.toList ds ps hp hd (fun j t v a b=>hv j t v a (by simpa using b));obtain ⟨n,hn'⟩:=contract _ h4;have hok:=Au8 hE n f _ _ _ (hn' n (Nat.le_refl n)) (fun g=>w.heap[g]?) w trs rfl h2 (by rw [Aoc trs 0 hmode];simp) (by rw [h3];exact BlkOK.nil _ _) (fun g o h=>h) hgd;rw [h1] at hok;unfold Does at hok;rw [Ais hf (hE.name f fd hf hn) hb] at hok;refine Calls.mono hok fun e w' ⟨M',t,touts,he,ht,htd,hr,_,_,_,hB,hM,hev⟩=>?_;rw [h3] at hev;have htv:t.val=.bool true:=by
  cases t with
  | leaf d v=>
   simp only [T.erase] at ht;subst ht;have hr:RI M' (.lit (.bool true)) v:=hr;simp only [RI] at hr;exact hr.1
  | _=>simp [T.erase] at ht
 refine ⟨by rw [he,htv],hev.os,hev.tape,hev.output,hev.size,fun g hg=>hev.out g hg (by simp [keys])⟩
end Go.Own
namespace Go.Own
open Go.Lib Go.RowKit
theorem Ajz {P:Program} {w:World} {k n c b off:Nat} {news:List Value} (hl:news.length=n*k) (hc:∀ j u,news[j]? = some u->w.cell? ⟨b,off+j,none⟩=some u):Gives P w k n (.slice (some ⟨b,off,none⟩) n c) news:=
 ⟨hl,fun w'=>by simp [Builtin.lenOf],fun w' hw=>run_firstCells_some (P:=P) w' k n ⟨b,off,none⟩ n c news hl (fun j u hj=>by
  rw [Addr.add_lit];have:=hc j u hj;unfold World.cell? at this ⊢
  rw [hw];exact this)⟩
theorem Aj6 {P:Program} {w:World} {ops:Array Oper} {rest:List Oper} {o:Oper} {a:Act} {Q:Exit->Act->World->Prop} (hgd:o.guard=none) (s x:Operand) (t e:TypeId)
  (ho:o.op=.call { callee:=.builtin .append,args:=#[s,x],argTypes:=#[t,t] }) (i:TypeInfo) (z:Value) (ht:P.underlying t=some (.slice e)) (hi:P.info? e=some i) (hz:i.zero=some z)
  (base:Option Addr) (hs:a.eval s=.slice base 0 0) (y:Value) (hx:a.eval x=y) (m:Nat) (news:List Value) (hy:Gives P w i.size m y news) (hm:0<m) (hmx:m<=maxLen) (hfit:m*i.bytes<=140737488355328) (zc:Nat->Array Value) (hzc:∀ m,Builtin.zeroCells z.cells m=zc m)
  (h:∀ cap,m<=cap->cap<=maxLen->wpList P ops Q rest (a.put o.dst (.slice (some ⟨w.heap.size,0,none⟩) m cap)) (w.drew.alloc (.cells (news.toArray++zc (cap-m)) e))):wpList P ops Q (o::rest) a w:=by
 refine wpList_plain hgd fun K hK=>?_;have hu:rowT P t=true:=by unfold rowT;rw [ht]
 have hr:=Amz (ty:=o.type) (base:=base) (sLen:=0) (sCap:=0) (olds:=[]) ht hu hi hz hy (fun w' _=>by
  cases base with
  | none=>simp [Builtin.firstCells]
  | some b=>exact run_firstCells_some (P:=P) w' i.size 0 b 0 0 [] (by simp) (by intro j v h;simp at h)) (by omega) (by unfold maxLen at hmx;omega) (growslice_fits (by omega) (by rw [Nat.zero_add];exact hfit))
 unfold Oper.wp execOp;simp only [Nat.zero_add] at hr;simp only [ho,resolve,invoke,builtin,Sem.run_bind,Sem.run_pure,Result.andThen_ok,List.map_toArray,List.map_cons,List.map_nil,hs,hx,hr];refine hK _ _ ?_;have:=h (grownCap w m 0 e) (grownCap_ge w m 0 e) (grownCap_le_maxLen w m 0 e hmx);rw [hzc];simpa using this
structure CloneOK (P:Program) (f e k by_:Nat) (z:Value):Prop where
 some_:∀ (b off n c:Nat) (news:List Value) (w:World),news.length=n*k->0<n->n<=maxLen->n*by_<=140737488355328->(∀ j u,news[j]? = some u->w.cell? ⟨b,off+j,none⟩=some u) ->
  Calls P f #[.slice (some ⟨b,off,none⟩) n c] w fun q w'=>∃ g cap,q=.returned (.slice (some ⟨g,0,none⟩) n cap)/\w.heap.size<=g/\n<=cap/\cap<=maxLen/\w'.heap[g]? = some (.cells (news.toArray++Builtin.zeroCells z.cells (cap-n)) e (0,0))/\Below w.heap.size w w'
 nil:∀ (n c:Nat) (w:World),Calls P f #[.slice none n c] w fun q w'=>q=.returned (.slice none 0 0)/\w'=w
 zero:∀ (a:Addr) (c:Nat) (w:World),Calls P f #[.slice (some a) 0 c] w fun q w'=>q=.returned (.slice (some ⟨w.heap.size,0,none⟩) 0 0)/\w'.heap[w.heap.size]? = some (.cells #[] e (0,0))/\Below w.heap.size w w'
 zk:z.cells.size=k
 z1:∀ u∈z.cells.toList,u.oneCell'=true
 kp:0<k
theorem Alc {E:Env} {f e k by_:Nat} {z:Value} (hm0:E.mode f 0≠.inout) (hrun:∀ args w,(callFunc f args).run E.P w=.ok (.enter f args) w) (hc:CloneOK E.P f e k by_ z)
  {ds:List D} {r:D} {outs:List D} (h:Ag9 k by_ ds=some (r,outs)):FnOK E f ds r outs:=by
 unfold Ag9 at h
 split at h
 ·rename_i es
  split at h
  ·rename_i hn;obtain ⟨hall,hby⟩:=hn;simp only [zJ,Prod.mk.injEq] at h;obtain ⟨rfl,rfl⟩:=h;intro M w ts hts htg hln hblk hmem hgd;rcases ts with _ | ⟨t1,_ | ⟨t2,rs⟩⟩
   case nil=>simp at hts
   case cons.cons=>simp at hts
   ·simp only [List.map_cons,List.map_nil,List.cons.injEq,and_true] at hts;obtain ⟨v,rfl⟩:∃ v,t1=.leaf (.sl es) v:=by
     cases t1 with
     | leaf d v=>simp only [T.erase] at hts;subst hts;exact ⟨v,rfl⟩
     | _=>simp [T.erase] at hts
    have hg:RI M (.sl es) v:=(htg (.leaf (.sl es) v) (by simp)).2;have hlents:Aav E f 0 [T.leaf (.sl es) v]=[]:=by simp [Aav,hm0]
    rw [hlents];unfold Does;rw [hrun];obtain ⟨A,c,tss,rfl,hmx,hes,htd,hwf,hA⟩:=Akx hmem hg;have hnx:=Agi htd hwf (by rw [hes];exact Art hg);have hmem':∀ {w':World},Below w.heap.size w w'->Aar M w':=fun hb g o hgo=>by rw [hb.block g (hmem.lt hgo)];exact hmem g o hgo
    have evo:∀ {w':World} {B:List Nat},Below w.heap.size w w'->(∀ g∈B,w.heap.size<=g)->Evo M (keys (T.blocksC [T.leaf (.sl es) (.slice A es.length c)])) w M B w':=fun hb hB=>
     ⟨hb.os,hb.tape,hb.output,hb.size,fun g hg _=>hb.block g hg,Mem.le_refl M,fun _ _ h=>.inl h,fun g hg=>.inr (hB g hg)⟩
    show Calls E.P f #[.slice A es.length c] w _;by_cases h0:es=[]
    ·subst h0;cases A with
     | none=>
      refine Calls.mono (hc.nil _ c w) ?_;rintro q w' ⟨rfl,rfl⟩;refine ⟨M,.nil,[],rfl,rfl,trivial,trivial,rfl,by simp,rfl,?_,hmem,?_⟩
      ·exact BlkOK.nil _ _
      ·exact Evo.refl' _ _ (by simp [T.blocks,T.blocksC,keys])
     | some a=>
      refine Calls.mono (hc.zero a c w) ?_;rintro q w' ⟨rfl,hcell,hb⟩;refine ⟨M,.own w.heap.size 0 e [] [],[],rfl,rfl,by simp [T.tidy,T.tidyE],?_,rfl,by simp,rfl,?_,hmem' hb,?_⟩
      ·simp only [Acp,Giv,T.wf,T.wfE];exact ⟨⟨k,hc.kp,by simp,by simp⟩,⟨by simp,by simp⟩,by simp,by simp,trivial⟩
      ·refine ⟨?_,?_,?_⟩
       ·simp [T.blocks,T.blocksC,T.blocksE]
       ·intro x hx;simp only [T.blocks,T.blocksC,T.blocksE,T.valsE,List.append_nil,List.mem_singleton] at hx;subst hx;exact hcell
       ·intro x hx;simp only [T.blocks,T.blocksC,T.blocksE,T.valsE,List.append_nil,List.mem_singleton] at hx;subst hx;cases hM:M w.heap.size with
        | none=>rfl
        | some o=>exact absurd (hmem.lt hM) (Nat.lt_irrefl _)
      ·exact evo hb (by simp [T.blocks,T.blocksC,T.blocksE,keys])
    ·rcases hA with h1 | ⟨g0,b0,k',rfl,hk0,hk',hcells⟩
     ·exact absurd h1 h0
     ·have hkk:∀ x∈tss,x.length=k:=fun x hx=>by
       have:=hall (x.map T.erase) (by rw [← hes];exact List.mem_map.2 ⟨x,hx,rfl⟩);simpa using this
      have hlen:tss.length=es.length:=by rw [← hes,List.length_map]
      have hvl:(T.valsE tss).length=es.length*k:=by rw [Aat hkk,hlen]
      have hpos:0<es.length:=List.length_pos_iff.2 h0;refine Calls.mono (hc.some_ g0 b0 es.length c (T.valsE tss) w hvl hpos hmx hby hcells) ?_;rintro q w' ⟨g,cap,rfl,hge,hnc,hcm,hcell,hb⟩;have hblk:T.blocks (.own g cap e (Builtin.zeroCells z.cells (cap-es.length)).toList tss)=[(g,.cells (T.valsE tss++(Builtin.zeroCells z.cells (cap-es.length)).toList).toArray e (0,0))]:=by
       simp only [T.blocks,hnx]
      have hzl:(Builtin.zeroCells z.cells (cap-es.length)).toList=(List.replicate (cap-es.length) z.cells.toList).flatten:=by
       rw [Aff];have:=Ad4 z.cells (by rw [hc.zk];exact hc.kp) (cap-es.length);exact this
      refine ⟨M,.own g cap e (Builtin.zeroCells z.cells (cap-es.length)).toList tss,[],by simp [T.val,hlen],by rw [← hes,← T.eraseE_eq];rfl,by simpa [T.tidy] using htd,?_,rfl,by simp,rfl,?_,hmem' hb,?_⟩
      ·simp only [Acp,Giv,T.wf];refine ⟨⟨k,hc.kp,hkk,?_⟩,⟨by omega,by omega⟩,hcm,?_,hwf⟩
       ·rw [hzl,hlen];simp only [List.length_flatten,List.map_replicate,List.sum_replicate_nat];have:z.cells.toList.length=k:=by simpa using hc.zk
        rw [this,← Nat.add_mul];congr 1;omega
       ·intro u hu;rw [hzl] at hu;obtain ⟨l,hl,hu⟩:=List.mem_flatten.1 hu;rw [List.eq_of_mem_replicate hl] at hu;exact hc.z1 u hu
      ·rw [hblk];have hcell':w'.heap[g]? = some (.cells (T.valsE tss++(Builtin.zeroCells z.cells (cap-es.length)).toList).toArray e (0,0)):=by
        rw [hcell];exact congrArg (fun A=>some (Obj.cells A e (0,0))) (Array.ext' (by simp))
       refine ⟨by simp [T.blocksC],?_,?_⟩
       ·intro x hx;simp only [T.blocksC,List.append_nil,List.mem_singleton] at hx;subst hx;exact hcell'
       ·intro x hx;simp only [T.blocksC,List.append_nil,List.mem_singleton] at hx;subst hx;cases hM:M g with
        | none=>rfl
        | some o=>exact absurd (hmem.lt hM) (by omega)
      ·rw [hblk];exact evo hb (by simp [T.blocksC,keys];exact hge)
  ·cases h
 ·cases h
end Go.Own
