/- No conditions. -/
import Derived.Lib.JoinLaws
import Derived.Test.YtbmbbljdpnpmeaaGreatDoorOwn27
import Derived.Test.YtbmbbljdpnpmeaaGreatDoorOwn29
import Derived.Test.YtbmbbljdpnpmeaaGreatDoorOwn17
set_option linter.all false
namespace Go.Own
open Go.Lib Go.RowKit
theorem Alh {P:Program} {w:World} {k n c b off:Nat} {news:List Value} (hl:news.length=n*k) (hc:∀ j u,news[j]? = some u->w.cell? ⟨b,off+j,none⟩=some u):Gives P w k n (.slice (some ⟨b,off,none⟩) n c) news:=
 ⟨hl,fun w'=>by simp [Builtin.lenOf],fun w' hw=>run_firstCells_some (P:=P) w' k n ⟨b,off,none⟩ n c news hl (fun j u hj=>by
  rw [Addr.add_lit];have:=hc j u hj;unfold World.cell? at this ⊢;rw [hw];exact this)⟩
theorem Ap7 {P:Program} {w:World} {ops:Array Oper} {rest:List Oper} {o:Oper} {a:Act} {Q:Exit->Act->World->Prop} (hgd:o.guard=none) (s x:Operand) (t e:TypeId)
  (ho:o.op=.call { callee:=.builtin .append,args:=#[s,x],argTypes:=#[t,t] }) (i:TypeInfo) (z:Value) (ht:P.underlying t=some (.slice e)) (hi:P.info? e=some i) (hz:i.zero=some z)
  (base:Option Addr) (hs:a.eval s=.slice base 0 0) (y:Value) (hx:a.eval x=y) (m:Nat) (news:List Value) (hy:Gives P w i.size m y news) (hm:0<m) (hmx:m<=maxLen) (hfit:m*i.bytes<=140737488355328) (zc:Nat->Array Value) (hzc:∀ m,Builtin.zeroCells z.cells m=zc m)
  (h:∀ cap,m<=cap->cap<=maxLen->wpList P ops Q rest (a.put o.dst (.slice (some ⟨w.heap.size,0,none⟩) m cap)) (w.drew.alloc (.cells (news.toArray++zc (cap-m)) e))):wpList P ops Q (o::rest) a w:=by
 refine wpList_plain hgd fun K hK=>?_;have hu:rowT P t=true:=by unfold rowT;rw [ht]
 have hr:=Afo (ty:=o.type) (base:=base) (sLen:=0) (sCap:=0) (olds:=[]) ht hu hi hz hy (fun w' _=>by
  cases base with
  | none=>simp [Builtin.firstCells]
  | some b=>exact run_firstCells_some (P:=P) w' i.size 0 b 0 0 [] (by simp) (by intro j v h;simp at h)) (by omega) (by unfold maxLen at hmx;omega) (growslice_fits (by omega) (by rw [Nat.zero_add];exact hfit))
 unfold Oper.wp execOp;simp only [Nat.zero_add] at hr;simp only [ho,resolve,invoke,builtin,Sem.run_bind,Sem.run_pure,Result.andThen_ok,List.map_toArray,List.map_cons,List.map_nil,hs,hx,hr];refine hK _ _ ?_;have:=h (grownCap w m 0 e) (grownCap_ge w m 0 e) (grownCap_le_maxLen w m 0 e hmx);rw [hzc];simpa using this
structure CloneOK (P:Program) (f e k by_:Nat) (z:Value):Prop where
 some_:∀ (b off n c:Nat) (news:List Value) (w:World),news.length=n*k->0<n->n<=maxLen->n*by_<=140737488355328->(∀ j u,news[j]? = some u->w.cell? ⟨b,off+j,none⟩=some u) ->
  Calls P f #[.slice (some ⟨b,off,none⟩) n c] w fun q w'=>∃ g cap,q=.returned (.slice (some ⟨g,0,none⟩) n cap)/\w.heap.size<=g/\n<=cap/\cap<=maxLen/\w'.heap[g]? = some (.cells (news.toArray++Builtin.zeroCells z.cells (cap-n)) e (0,0))/\Below w.heap.size w w'
 nil:∀ (n c:Nat) (w:World),Calls P f #[.slice none n c] w fun q w'=>q=.returned (.slice none 0 0)/\w'=w
 zero:∀ (a:Addr) (c:Nat) (w:World),Calls P f #[.slice (some a) 0 c] w fun q w'=>q=.returned (.slice (some ⟨w.heap.size,0,none⟩) 0 0)/\w'.heap[w.heap.size]? = some (.cells #[] e (0,0))/\Below w.heap.size w w'
 zk:z.cells.size=k
 z1:∀ u∈z.cells.toList,u.oneCell'=true
 kp:0<k
theorem As0 {E:Env} {f e k by_:Nat} {z:Value} (hm0:E.mode f 0≠.inout) (hrun:∀ args w,(callFunc f args).run E.P w=.ok (.enter f args) w) (hc:CloneOK E.P f e k by_ z)
  {ds:List D} {r:D} {outs:List D} (h:Ait k by_ ds=some (r,outs)):FnOK E f ds r outs:=by
 unfold Ait at h
 split at h
 ·rename_i es
  split at h
  ·rename_i hn;obtain ⟨hall,hby⟩:=hn;simp only [zJ,Prod.mk.injEq] at h;obtain ⟨rfl,rfl⟩:=h;intro M w ts hts htg hln hblk hmem hgd;rcases ts with _ | ⟨t1,_ | ⟨t2,rs⟩⟩
   case nil=>simp at hts
   case cons.cons=>simp at hts
   ·simp only [List.map_cons,List.map_nil,List.cons.injEq,and_true] at hts;obtain ⟨v,rfl⟩:∃ v,t1=.leaf (.sl es) v:=by
     cases t1 with
     | leaf d v=>simp only [T.erase] at hts;subst hts;exact ⟨v,rfl⟩
     | _=>simp [T.erase] at hts
    have hg:RI M (.sl es) v:=(htg (.leaf (.sl es) v) (by simp)).2;have hlents:Ab1 E f 0 [T.leaf (.sl es) v]=[]:=by simp [Ab1,hm0]
    rw [hlents];unfold Does;rw [hrun];obtain ⟨A,c,tss,rfl,hmx,hes,htd,hwf,hA⟩:=Agi hmem hg;have hnx:=Afl htd hwf (by rw [hes];exact Am3 hg);have hmem':∀ {w':World},Below w.heap.size w w'->Aau M w':=fun hb g o hgo=>by rw [hb.block g (hmem.lt hgo)];exact hmem g o hgo
    have evo:∀ {w':World} {B:List Nat},Below w.heap.size w w'->(∀ g∈B,w.heap.size<=g)->Evo M (keys (T.blocksC [T.leaf (.sl es) (.slice A es.length c)])) w M B w':=fun hb hB=>
     ⟨hb.os,hb.tape,hb.output,hb.size,fun g hg _=>hb.block g hg,Mem.le_refl M,fun _ _ h=>.inl h,fun g hg=>.inr (hB g hg)⟩
    show Calls E.P f #[.slice A es.length c] w _;by_cases h0:es=[]
    ·subst h0;cases A with
     | none=>
      refine Calls.mono (hc.nil _ c w) ?_;rintro q w' ⟨rfl,rfl⟩;refine ⟨M,.nil,[],rfl,rfl,trivial,trivial,rfl,by simp,rfl,?_,hmem,?_⟩
      ·exact BlkOK.nil _ _
      ·exact Evo.refl' _ _ (by simp [T.blocks,T.blocksC,keys])
     | some a=>
      refine Calls.mono (hc.zero a c w) ?_;rintro q w' ⟨rfl,hcell,hb⟩;refine ⟨M,.own w.heap.size 0 e [] [],[],rfl,rfl,by simp [T.tidy,T.tidyE],?_,rfl,by simp,rfl,?_,hmem' hb,?_⟩
      ·simp only [Adg,Giv,T.wf,T.wfE];exact ⟨⟨k,hc.kp,by simp,by simp⟩,⟨by simp,by simp⟩,by simp,by simp,trivial⟩
      ·refine ⟨?_,?_,?_⟩
       ·simp [T.blocks,T.blocksC,T.blocksE]
       ·intro x hx;simp only [T.blocks,T.blocksC,T.blocksE,T.valsE,List.append_nil,List.mem_singleton] at hx;subst hx;exact hcell
       ·intro x hx;simp only [T.blocks,T.blocksC,T.blocksE,T.valsE,List.append_nil,List.mem_singleton] at hx;subst hx;cases hM:M w.heap.size with
        | none=>rfl
        | some o=>exact absurd (hmem.lt hM) (Nat.lt_irrefl _)
      ·exact evo hb (by simp [T.blocks,T.blocksC,T.blocksE,keys])
    ·rcases hA with h1 | ⟨g0,b0,k',rfl,hk0,hk',hcells⟩
     ·exact absurd h1 h0
     ·have hkk:∀ x∈tss,x.length=k:=fun x hx=>by
       have:=hall (x.map T.erase) (by rw [← hes];exact List.mem_map.2 ⟨x,hx,rfl⟩);simpa using this
      have hlen:tss.length=es.length:=by rw [← hes,List.length_map]
      have hvl:(T.valsE tss).length=es.length*k:=by rw [Aak hkk,hlen]
      have hpos:0<es.length:=List.length_pos_iff.2 h0;refine Calls.mono (hc.some_ g0 b0 es.length c (T.valsE tss) w hvl hpos hmx hby hcells) ?_;rintro q w' ⟨g,cap,rfl,hge,hnc,hcm,hcell,hb⟩;have hblk:T.blocks (.own g cap e (Builtin.zeroCells z.cells (cap-es.length)).toList tss)=[(g,.cells (T.valsE tss++(Builtin.zeroCells z.cells (cap-es.length)).toList).toArray e (0,0))]:=by
       simp only [T.blocks,hnx]
      have hzl:(Builtin.zeroCells z.cells (cap-es.length)).toList=(List.replicate (cap-es.length) z.cells.toList).flatten:=by
       rw [Acq];have:=Acf z.cells (by rw [hc.zk];exact hc.kp) (cap-es.length);exact this
      refine ⟨M,.own g cap e (Builtin.zeroCells z.cells (cap-es.length)).toList tss,[],by simp [T.val,hlen],by rw [← hes,← T.eraseE_eq];rfl,by simpa [T.tidy] using htd,?_,rfl,by simp,rfl,?_,hmem' hb,?_⟩
      ·simp only [Adg,Giv,T.wf];refine ⟨⟨k,hc.kp,hkk,?_⟩,⟨by omega,by omega⟩,hcm,?_,hwf⟩
       ·rw [hzl,hlen];simp only [List.length_flatten,List.map_replicate,List.sum_replicate_nat];have:z.cells.toList.length=k:=by simpa using hc.zk
        rw [this,← Nat.add_mul];congr 1;omega
       ·intro u hu;rw [hzl] at hu;obtain ⟨l,hl,hu⟩:=List.mem_flatten.1 hu;rw [List.eq_of_mem_replicate hl] at hu;exact hc.z1 u hu
      ·rw [hblk];have hcell':w'.heap[g]? = some (.cells (T.valsE tss++(Builtin.zeroCells z.cells (cap-es.length)).toList).toArray e (0,0)):=by
        rw [hcell];exact congrArg (fun A=>some (Obj.cells A e (0,0))) (Array.ext' (by simp))
       refine ⟨by simp [T.blocksC],?_,?_⟩
       ·intro x hx;simp only [T.blocksC,List.append_nil,List.mem_singleton] at hx;subst hx;exact hcell'
       ·intro x hx;simp only [T.blocksC,List.append_nil,List.mem_singleton] at hx;subst hx;cases hM:M g with
        | none=>rfl
        | some o=>exact absurd (hmem.lt hM) (by omega)
      ·rw [hblk];exact evo hb (by simp [T.blocksC,keys];exact hge)
  ·cases h
 ·cases h
end Go.Own
namespace Go.Own
open Go.Lib Go.RowKit
section
variable {P:Program} {w:World}
def Adp (w:World) (v:Value):Prop:=∀ g cur e,v.ownBlock=some g->w.heap[g]? = some (.cells cur e (0,0))->∀ u∈cur.toList,u.oneCell'=true
theorem Asx:Adp w (.slice none 0 0):=fun _ _ _ h=>by cases h
theorem Aor {z:Value} (hz1:∀ u∈z.cells.toList,u.oneCell'=true) {n:Nat}:∀ u∈(Builtin.zeroCells z.cells n).toList,u.oneCell'=true:=by
 intro u hu;rw [Acq] at hu;by_cases hp:0<z.cells.size
 ·have:=Acf z.cells hp n;rw [this] at hu;obtain ⟨l,hl,hu⟩:=List.mem_flatten.1 hu;rw [List.eq_of_mem_replicate hl] at hu;exact hz1 u hu
 ·have h0:z.cells.size=0:=by omega
  rw [← Acq] at hu;have:=size_zeroCells z.cells n;rw [h0,Nat.mul_zero] at this;have:(Builtin.zeroCells z.cells n).toList=[]:=List.eq_nil_of_length_eq_zero (by simpa using this);rw [this] at hu;cases hu
theorem Az8 {t ty e:Nat} {i:TypeInfo} {z:Value} {k by_:Nat} (ht:P.underlying t=some (.slice e)) (hi:P.info? e=some i) (hz:i.zero=some z) (hk:i.size=k) (hb:i.bytes=by_) (hzk:z.cells.size=k) (hz1:∀ u∈z.cells.toList,u.oneCell'=true)
  {base n m:Nat} {v y:Value} {xs news:List Value} (hown:w.ownsRow base e k v n xs) (hro:Adp w v) (hy:Gives P w k m y news) (h1:∀ u∈news,u.oneCell'=true) (hmx:n+m<=maxLen) (hby:(n+m)*by_<=140737488355328) (hbase:base<=w.heap.size) :
  ∃ v' w',(Builtin.append_ #[t,t] ty #[v,y]).run P w=.ok v' w'/\w'.ownsRow base e k v' (n+m) (xs++news)/\w.grownBy w' v.ownBlock/\(n+m=0->v=.slice none 0 0->v'=.slice none 0 0)/\Adp w' v':=by
 subst hk;subst hb;have hu:rowT P t=true:=by unfold rowT;rw [ht]
 have hlen:(xs++news).length=(n+m)*i.size:=by rw [List.length_append,hown.1,hy.len,Nat.add_mul]
 have hxs:∀ u∈xs,u.oneCell'=true:=fun u hu=>by
  rcases hown.2 with ⟨rfl,rfl⟩ | ⟨g,cap,cur,rfl,hbg,hg,hnc,hcm,hcs,htake⟩
  ·have hx:xs=[]:=List.eq_nil_of_length_eq_zero (by simpa using hown.1);rw [hx] at hu;cases hu
  ·rw [← htake] at hu;exact hro g cur e rfl hg u (List.mem_of_mem_take hu)
 have grown:∀ (old:Nat),old<n+m->∀ (row:Option Nat),
   (w.drew.alloc (.cells (xs.toArray++news.toArray++Builtin.zeroCells z.cells (grownCap w (n+m) old e-(n+m))) e)).ownsRow base e i.size
    (.slice (some ⟨w.heap.size,0,none⟩) (n+m) (grownCap w (n+m) old e)) (n+m) (xs++news) /\
   w.grownBy (w.drew.alloc (.cells (xs.toArray++news.toArray++Builtin.zeroCells z.cells (grownCap w (n+m) old e-(n+m))) e)) row /\
   Adp (w.drew.alloc (.cells (xs.toArray++news.toArray++Builtin.zeroCells z.cells (grownCap w (n+m) old e-(n+m))) e)) (.slice (some ⟨w.heap.size,0,none⟩) (n+m) (grownCap w (n+m) old e)):=by
  intro old ho row;have hge:=grownCap_ge w (n+m) old e;have hcm:grownCap w (n+m) old e<=maxLen:=grownCap_le_maxLen w (n+m) old e hmx;refine ⟨⟨hlen,.inr ⟨w.heap.size,_,_,rfl,hbase,heap_alloc_new w.drew _,hge,hcm,?_,?_⟩⟩,⟨rfl,rfl,rfl,by simp,fun k hk _=>Lib.alloc_old w.drew _ k hk⟩,?_⟩
  case refine_3=>
   intro g cur e' hg hc u hu;simp only [Value.ownBlock,zJ] at hg;subst hg;have hn:=heap_alloc_new w.drew (.cells (xs.toArray++news.toArray++Builtin.zeroCells z.cells (grownCap w (n+m) old e-(n+m))) e);have hq:(w.drew.alloc (.cells (xs.toArray++news.toArray++Builtin.zeroCells z.cells (grownCap w (n+m) old e-(n+m))) e)).heap[w.heap.size]? = some (.cells (xs.toArray++news.toArray++Builtin.zeroCells z.cells (grownCap w (n+m) old e-(n+m))) e (0,0)):=hn;rw [hq] at hc;simp only [zJ,Obj.cells.injEq] at hc;rw [← hc.1] at hu;simp only [Array.toList_append,List.mem_append] at hu;rcases hu with (hu | hu) | hu
   ·exact hxs u hu
   ·exact h1 u hu
   ·exact Aor hz1 u hu
  ·simp only [Array.size_append,List.size_toArray,size_zeroCells,hzk,hown.1,hy.len,← Nat.add_mul];congr 1;omega
  ·simp only [Array.toList_append,List.append_assoc];rw [← List.append_assoc,← hlen];exact List.take_left
 rcases hown.2 with ⟨rfl,rfl⟩ | ⟨g,cap,cur,rfl,hbg,hg,hnc,hcm,hcs,htake⟩
 ·have hx:xs=[]:=List.eq_nil_of_length_eq_zero (by simpa using hown.1);subst hx;by_cases hm:m=0
  ·subst hm;have hn:news=[]:=List.eq_nil_of_length_eq_zero (by simpa using hy.len);subst hn;refine ⟨.slice none 0 0,w,?_,World.ownsRow_nil w base e i.size,⟨rfl,rfl,rfl,Nat.le_refl _,fun _ _ _=>rfl⟩,fun _ _=>rfl,Asx⟩;rw [Aed (ty:=ty) ht hu hi hy (Nat.le_refl _)];simp
  ·have hr:=Afo (ty:=ty) ht hu hi hz hy (base:=none) (sLen:=0) (sCap:=0) (olds:=[]) (fun w' _=>by simp [Builtin.firstCells]) (by omega) (by unfold maxLen at hmx;omega) (growslice_fits (by omega) hby);have hgr:=grown 0 (by omega) (Value.ownBlock (.slice none 0 0));exact ⟨_,_,hr,hgr.1,hgr.2.1,(fun h=>by omega),hgr.2.2⟩
 ·by_cases hroom:n+m<=cap
  ·have hfit:n*i.size+news.length<=cur.size:=by rw [hy.len,hcs,← Nat.add_mul];exact Nat.mul_le_mul_right _ hroom
   have hst:=run_storeCells_at P g (n*i.size) e news 0 cur w hg (by simpa using hfit) h1;simp only [Nat.add_zero] at hst;refine ⟨.slice (some ⟨g,0,none⟩) (n+m) cap,w.setRow g (cur.toList.take (n*i.size)++news++cur.toList.drop (n*i.size+news.length)).toArray,?_,⟨hlen,.inr ⟨g,cap,_,rfl,hbg,setRow_heap w g cur _ e _ hg,hroom,hcm,?_,?_⟩⟩,⟨rfl,rfl,rfl,by simp,fun k _ hk=>setRow_other w g k _ (fun e=>hk (by simp [Value.ownBlock,e]))⟩,(fun _ h=>by cases h),?_⟩
   ·rw [Aed (ty:=ty) ht hu hi hy hroom];simp only [Addr.add_plain,Nat.zero_add,Sem.run_bind,hst,Result.andThen_ok,Sem.run_pure]
   ·simp only [List.size_toArray,List.length_append,List.length_take,List.length_drop,Array.length_toList];omega
   ·rw [htake,← hlen];exact List.take_left
   ·intro g' cur' e' hg' hc u hu;simp only [Value.ownBlock,zJ] at hg';subst hg';rw [setRow_heap w g cur _ e _ hg] at hc;simp only [zJ,Obj.cells.injEq] at hc;rw [← hc.1] at hu;simp only [List.mem_append] at hu;rcases hu with (hu | hu) | hu
    ·exact hro g cur e rfl hg u (List.mem_of_mem_take hu)
    ·exact h1 u hu
    ·exact hro g cur e rfl hg u (List.mem_of_mem_drop hu)
  ·have holds:∀ j u,xs[j]? = some u->w.cell? ((⟨g,0,none⟩:Addr).add j)=some u:=hown.cells (g:=g) rfl;have hr:=Afo (ty:=ty) ht hu hi hz hy (base:=some ⟨g,0,none⟩) (sLen:=n) (sCap:=cap) (olds:=xs) (fun w' hw=>run_firstCells_some (P:=P) w' i.size n ⟨g,0,none⟩ n cap xs hown.1 fun j u hj=>by
    have:=holds j u hj;unfold World.cell? at this ⊢;rw [hw];exact this) (by omega) (by unfold maxLen at hmx;omega) (growslice_fits (by omega) hby)
   have hgr:=grown cap (by omega) (Value.ownBlock (.slice (some ⟨g,0,none⟩) n cap));exact ⟨_,_,hr,hgr.1,hgr.2.1,(fun _ h=>by cases h),hgr.2.2⟩
theorem Ama {ops:Array Oper} {rest:List Oper} {o:Oper} {a:Act} {Q:Exit->Act->World->Prop} (hgd:o.guard=none) (s x:Operand) (t e:Nat)
  (ho:o.op=.call { callee:=.builtin .append,args:=#[s,x],argTypes:=#[t,t] }) {i:TypeInfo} {z:Value} {k by_:Nat} (ht:P.underlying t=some (.slice e)) (hi:P.info? e=some i) (hz:i.zero=some z) (hk:i.size=k) (hb:i.bytes=by_) (hzk:z.cells.size=k) (hz1:∀ u∈z.cells.toList,u.oneCell'=true)
  {base n m:Nat} {v y:Value} {xs news:List Value} (hs:a.eval s=v) (hx:a.eval x=y) (hown:w.ownsRow base e k v n xs) (hro:Adp w v) (hy:Gives P w k m y news) (h1:∀ u∈news,u.oneCell'=true) (hmx:n+m<=maxLen) (hby:(n+m)*by_<=140737488355328) (hbase:base<=w.heap.size)
  (h:∀ v' w',w'.ownsRow base e k v' (n+m) (xs++news)->w.grownBy w' v.ownBlock->(n+m=0->v=.slice none 0 0->v'=.slice none 0 0)->Adp w' v'->wpList P ops Q rest (a.put o.dst v') w'):wpList P ops Q (o::rest) a w:=by
 refine wpList_plain hgd fun K hK=>?_;obtain ⟨v',w',hr,q1,q2,q3,q4⟩:=Az8 (ty:=o.type) ht hi hz hk hb hzk hz1 hown hro hy h1 hmx hby hbase;unfold Oper.wp execOp;simp only [ho,resolve,invoke,builtin,Sem.run_bind,Sem.run_pure,Result.andThen_ok,List.map_toArray,List.map_cons,List.map_nil,hs,hx,hr];exact hK _ _ (h v' w' q1 q2 q3 q4)
end
def Ajo (P:Program) (w:World) (k n:Nat) (y:Value) (news:List Value):Prop:=∀ w':World,(∀ j,j<w.heap.size->w'.heap[j]? = w.heap[j]?)->Gives P w' k n y news
structure ConcatOK (P:Program) (f e k by_:Nat) (z:Value):Prop where
 two:∀ (b off c n1 n2 c1 c2:Nat) (A1 A2:Option Addr) (l1 l2:List Value) (w:World),w.cell? ⟨b,off,none⟩=some (.slice A1 n1 c1)->w.cell? ⟨b,off+1,none⟩=some (.slice A2 n2 c2)->Ajo P w k n1 (.slice A1 n1 c1) l1->Ajo P w k n2 (.slice A2 n2 c2) l2 ->
  (∀ u∈l1,u.oneCell'=true)->(∀ u∈l2,u.oneCell'=true)->n1+n2<=1000000000000000->(n1+n2)*by_<=140737488355328 ->
  Calls P f #[.slice (some ⟨b,off,none⟩) 2 c] w fun q w'=>∃ v',q=.returned v'/\w'.ownsRow w.heap.size e k v' (n1+n2) (l1++l2)/\(n1+n2=0->v'=.slice none 0 0)/\Adp w' v'/\Below w.heap.size w w'
 zk:z.cells.size=k
 kp:0<k
 bp:0<by_
theorem Auy {P:Program} {M:Mem} {w:World} {k:Nat} {es:List (List D)} {tss:List (List T)} {A:Option Addr} {c:Nat} (hes:tss.map (·.map T.erase)=es) (hk:∀ x∈es,x.length=k)
  (hA:es=[]∨∃ g b k',A=some ⟨g,b,none⟩/\0<k'/\(∀ e∈tss,e.length=k')/\∀ j u,(T.valsE tss)[j]? = some u->w.cell? ⟨g,b+j,none⟩=some u):Ajo P w k es.length (.slice A es.length c) (T.valsE tss):=by
 have hkk:∀ x∈tss,x.length=k:=fun x hx=>by
  have:=hk (x.map T.erase) (by rw [← hes];exact List.mem_map.2 ⟨x,hx,rfl⟩);simpa using this
 have hlen:tss.length=es.length:=by rw [← hes,List.length_map]
 have hvl:(T.valsE tss).length=es.length*k:=by rw [Aak hkk,hlen]
 intro w' hw;rcases hA with h0 | ⟨g,b,k',rfl,_,_,hcells⟩
 ·have ht:tss=[]:=List.eq_nil_of_length_eq_zero (by rw [hlen,h0];rfl);subst ht;rw [h0];refine ⟨by simp [T.valsE],fun w'=>by simp [Builtin.lenOf],fun w' _=>?_⟩;cases A with
  | none=>simp [Builtin.firstCells,T.valsE]
  | some a=>exact run_firstCells_some (P:=P) w' k 0 a 0 c [] (by simp) (by intro j v h;simp at h)
 ·refine Alh hvl fun j u hj=>?_;have h1:=hcells j u hj;have hlt:g<w.heap.size:=by
   rcases Nat.lt_or_ge g w.heap.size with h' | h'
   ·exact h'
   ·simp [World.cell?,Array.getElem?_eq_none h'] at h1
  rw [World.cell?_of_block (w:=w) (w':=w') (a:=⟨g,b+j,none⟩) (hw g hlt)];exact h1
theorem Ayy {E:Env} {f e k by_:Nat} {z:Value} (hm0:E.mode f 0≠.inout) (hrun:∀ args w,(callFunc f args).run E.P w=.ok (.enter f args) w) (hc:ConcatOK E.P f e k by_ z)
  {ds:List D} {r:D} {outs:List D} (h:Ajf k by_ ds=some (r,outs)):FnOK E f ds r outs:=by
 unfold Ajf at h
 split at h
 ·rename_i xs ys
  split at h
  ·rename_i hn;obtain ⟨hall,hby⟩:=hn;simp only [zJ,Prod.mk.injEq] at h;obtain ⟨rfl,rfl⟩:=h;intro M w ts hts htg hln hblk hmem hgd;rcases ts with _ | ⟨t1,_ | ⟨t2,rs⟩⟩
   case nil=>simp at hts
   case cons.cons=>simp at hts
   ·simp only [List.map_cons,List.map_nil,List.cons.injEq,and_true] at hts;obtain ⟨v,rfl⟩:∃ v,t1=.leaf (.sl [[.sl xs],[.sl ys]]) v:=by
     cases t1 with
     | leaf d v=>simp only [T.erase] at hts;subst hts;exact ⟨v,rfl⟩
     | _=>simp [T.erase] at hts
    have hg:RI M (.sl [[.sl xs],[.sl ys]]) v:=(htg (.leaf (.sl [[.sl xs],[.sl ys]]) v) (by simp)).2;have hlents:Ab1 E f 0 [T.leaf (.sl [[.sl xs],[.sl ys]]) v]=[]:=by simp [Ab1,hm0]
    rw [hlents];unfold Does;rw [hrun];obtain ⟨A,c,tss,rfl,hmx,hes,htd,hwf,hA⟩:=Agi hmem hg;rcases hA with h0 | ⟨g0,b0,k',rfl,_,_,hcells⟩
    ·cases h0
    obtain ⟨u1,u2,rfl,q1,q2⟩:∃ u1 u2,tss=[[u1],[u2]]/\u1.erase=.sl xs/\u2.erase=.sl ys:=by
     match tss,hes with
     | [[u1],[u2]],h=>simp only [List.map_cons,List.map_nil,List.cons.injEq,and_true] at h;exact ⟨u1,u2,rfl,h.1,h.2⟩
     | [],h=>simp at h
     | [_],h=>simp at h
     | _::_::_::_,h=>simp at h
     | [[],_],h=>simp at h
     | [_,[]],h=>simp at h
     | [_::_::_,_],h=>simp at h
     | [_,_::_::_],h=>simp at h
    obtain ⟨v1,rfl⟩:∃ v,u1=.leaf (.sl xs) v:=by
     cases u1 with
     | leaf d v=>simp only [T.erase] at q1;subst q1;exact ⟨v,rfl⟩
     | _=>simp [T.erase] at q1
    obtain ⟨v2,rfl⟩:∃ v,u2=.leaf (.sl ys) v:=by
     cases u2 with
     | leaf d v=>simp only [T.erase] at q2;subst q2;exact ⟨v,rfl⟩
     | _=>simp [T.erase] at q2
    have r1:RI M (.sl xs) v1:=by
     have:=hwf.1.1;simpa [T.wf] using this
    have r2:RI M (.sl ys) v2:=by
     have:=hwf.2.1.1;simpa [T.wf] using this
    have k1:=hcells 0 v1 (by simp [T.valsE,T.vals,T.val]);have k2:=hcells 1 v2 (by simp [T.valsE,T.vals,T.val]);obtain ⟨A1,c1,ts1,rfl,mx1,es1,td1,wf1,hA1⟩:=Agi hmem r1;obtain ⟨A2,c2,ts2,rfl,mx2,es2,td2,wf2,hA2⟩:=Agi hmem r2;have hnx:T.blocksE (ts1++ts2)=[]:=by
     rw [T.blocksE_append,Afl td1 wf1 (by rw [es1];exact Am3 r1),Afl td2 wf2 (by rw [es2];exact Am3 r2)];rfl
    have hmem':∀ {w':World},Below w.heap.size w w'->Aau M w':=fun hb g o hgo=>by rw [hb.block g (hmem.lt hgo)];exact hmem g o hgo
    have evo:∀ {w':World} {B:List Nat},Below w.heap.size w w'->(∀ g∈B,w.heap.size<=g)->Evo M (keys (T.blocksC [T.leaf (.sl [[.sl xs],[.sl ys]]) (.slice (some ⟨g0,b0,none⟩) [[D.sl xs],[D.sl ys]].length c)])) w M B w':=fun hb hB=>
     ⟨hb.os,hb.tape,hb.output,hb.size,fun g hg _=>hb.block g hg,Mem.le_refl M,fun _ _ h=>.inl h,fun g hg=>.inr (hB g hg)⟩
    have hbig:xs.length+ys.length<=1000000000000000:=by
     have:=hc.bp;have:(xs.length+ys.length)*1<=(xs.length+ys.length)*by_:=Nat.mul_le_mul_left _ this;omega
    refine Calls.mono (hc.two g0 b0 c xs.length ys.length c1 c2 A1 A2 (T.valsE ts1) (T.valsE ts2) w k1 k2 (Auy (M:=M) es1 (fun x hx=>hall x (List.mem_append_left _ hx)) hA1) (Auy (M:=M) es2 (fun x hx=>hall x (List.mem_append_right _ hx)) hA2) (Abn wf1) (Abn wf2) hbig hby) ?_;rintro q w' ⟨v',rfl,hown,hnil,hro,hb⟩;by_cases h0:xs.length+ys.length=0
    ·have hx:xs=[]:=List.eq_nil_of_length_eq_zero (by omega);have hy:ys=[]:=List.eq_nil_of_length_eq_zero (by omega);rw [hnil h0];subst hx hy;refine ⟨M,.nil,[],rfl,rfl,trivial,trivial,rfl,by simp,rfl,?_,hmem' hb,?_⟩
     ·exact BlkOK.nil _ _
     ·exact evo hb (by simp [T.blocks,T.blocksC,keys])
    ·rcases hown.2 with ⟨_,h1⟩ | ⟨g,cap,cur,rfl,hge,hg',hnc,hcm,hcs,htake⟩
     ·omega
     ·have hkk:∀ x∈ts1++ts2,x.length=k:=fun x hx=>by
       have:=hall (x.map T.erase) (by rw [← es1,← es2,← List.map_append];exact List.mem_map.2 ⟨x,hx,rfl⟩);simpa using this
      have hlen:(ts1++ts2).length=xs.length+ys.length:=by rw [← es1,← es2];simp
      have hcur:T.valsE (ts1++ts2)++cur.toList.drop ((xs.length+ys.length)*k)=cur.toList:=by
       rw [T.valsE_append,← htake,List.take_append_drop]
      have hblk':T.blocks (.own g cap e (cur.toList.drop ((xs.length+ys.length)*k)) (ts1++ts2))=[(g,.cells cur e (0,0))]:=by
       simp only [T.blocks,hnx,hcur]
      refine ⟨M,.own g cap e (cur.toList.drop ((xs.length+ys.length)*k)) (ts1++ts2),[],by simp only [T.val,hlen],by simp only [T.erase,T.eraseE_eq,List.map_append,es1,es2],?_,?_,rfl,by simp,rfl,?_,hmem' hb,?_⟩
      ·simp only [T.tidy,T.tidyE_iff] at td1 td2 ⊢;intro x hx;rcases List.mem_append.1 hx with hx | hx
       ·exact td1 x hx
       ·exact td2 x hx
      ·simp only [Adg,Giv,T.wf];refine ⟨⟨k,hc.kp,hkk,?_⟩,⟨by omega,by omega⟩,hcm,?_,?_⟩
       ·rw [List.length_drop,hlen,Array.length_toList,hcs];have:(xs.length+ys.length)*k<=cap*k:=Nat.mul_le_mul_right _ hnc;omega
       ·intro u hu;exact hro g cur e rfl hg' u (List.mem_of_mem_drop hu)
       ·rw [T.wfE_iff] at wf1 wf2 ⊢;intro x hx;rcases List.mem_append.1 hx with hx | hx
        ·exact wf1 x hx
        ·exact wf2 x hx
      ·rw [hblk'];refine ⟨by simp [T.blocksC],?_,?_⟩
       ·intro x hx;simp only [T.blocksC,List.append_nil,List.mem_singleton] at hx;subst hx;exact hg'
       ·intro x hx;simp only [T.blocksC,List.append_nil,List.mem_singleton] at hx;subst hx;cases hM:M g with
        | none=>rfl
        | some o=>exact absurd (hmem.lt hM) (by omega)
      ·rw [hblk'];exact evo hb (by simp [T.blocksC,keys];exact hge)
  ·cases h
 ·cases h
end Go.Own
