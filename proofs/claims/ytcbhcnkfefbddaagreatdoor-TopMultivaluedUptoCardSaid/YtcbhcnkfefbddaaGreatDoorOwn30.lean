/- An interpreter of function bodies, sound. No conditions. -/
import Derived.Test.YtcbhcnkfefbddaaGreatDoorOwn24
import Derived.Test.YtcbhcnkfefbddaaGreatDoorOwn27
set_option linter.all false
open List renaming mem_map->aA,map_cons->aM,mem_cons->aQ,map_append->a6,nodup_iff_pairwise_ne->ba,not_mem_nil->bo,nodup_cons->bB,mem_flatMap->bL,mem_append->b3,flatMap_append->b5,toList_toArray->cc,flatMap_cons->cu,length_map->cz,length_nil->cx,pairwise_flatMap->cD,mem_cons_of_mem->cA,map_nil->cT,mem_singleton->c_,nodup_append->dn,length_cons->dR,append_nil->eb
open Prod renaming fst->du
namespace Go.aS
open D
abbrev nP:=ByteArray×Nat×Nat×Nat
def s6(g:nP):Value:=.agg ([Value.map (some g.2.1),.map (some g.2.2.1),.map (some g.2.2.2)]:List Value).toArray
def gG(gs:List nP):List (ByteArray×Value):=gs.map λg=>(g.1,s6 g)
def nx(g:nP):List Nat:=[g.2.1,g.2.2.1,g.2.2.2]
def jn(L:List ik)(s:ByteArray):List ByteArray:=hj ((lX L s).map λy=>y.2.1)
def ka(L:List ik)(s:ByteArray):List ByteArray:=hj ((lX L s).map λy=>y.2.2)
def mQ(L:List ik)(s:ByteArray):List ByteArray:=hj ((lX L s).map λy=>y.2.1++y.2.2)
def oE(L:List ik)(g:nP):List (Nat×Obj):=[(g.2.1,dX (jn L g.1)),(g.2.2.1,dX (ka L g.1)),(g.2.2.2,dX (mQ L g.1))]
def sV(L:List ik)(gs:List nP):List (Nat×Obj):=gs.flatMap (oE L)
structure nS(rg:Nat)(L:List ik)(gs:List nP)(X:List (Nat×Obj)):Prop where
 lr:X=(rg,kp (gG gs))::sV L gs
 eM:(rg::gs.flatMap nx).Nodup
 OR:(gs.map (·.1)).Nodup
 IS:∀y∈L,y.1∈gs.map (·.1)
theorem TJ{L:List ik}{gs:List nP}:(sV L gs).map du=gs.flatMap nx:=by
 unfold sV
 induction gs with
 |nil=>rfl
 |cons g gs aN=>rw[cu,a6,aN,cu];rfl
theorem nS.init(rg:Nat):nS rg [] [] ((rg,kp [])::[]):=⟨rfl,by simp,by simp,by simp⟩
theorem aa7{L:List ik}{s:ByteArray}(h:s ∉ L.map (·.1)):lX L s=[]:=by
 unfold lX;rw[List.filter_eq_nil_iff];intro y aw he;exact h (aA.2 ⟨y,aw,(ml _ _).1 he⟩)
theorem Rw{gs:List nP}{s:ByteArray}(h:s ∉ gs.map (·.1)):pe s (gG gs)=none:=by
 unfold pe gG;rw[List.find?_eq_none.2]
 .rfl
 .intro x U he;obtain⟨g,ak,rfl⟩:=aA.1 U;exact h (aA.2 ⟨g,ak,(ml _ _).1 he⟩)
theorem Rx:∀{gs:List nP}{s:ByteArray},s∈gs.map (·.1)->∃g∈gs,g.1=s/\pe s (gG gs)=some (s6 g)
 |[],_,h=>by cases h
 |g::gs,s,h=>by
  by_cases he:(g.1==s)=true
  .refine ⟨g,by simp,(ml _ _).1 he,?_⟩;simp[pe,gG,he]
  .have cI:(g.1==s)=false:=by simpa using he
   have ae:s∈gs.map (·.1):=by
    rw[aM]at h;rcases aQ.1 h with h|h
    .exact absurd ((ml _ _).2 h.symm) he
    .exact h
   obtain⟨fG,I,aa,aB⟩:=Rx ae;refine⟨fG,by simp[I],aa,?_⟩;unfold pe gG at aB⊢;rw[aM,List.find?_cons];simp only[cI];exact aB
theorem aei{L:List ik}{gs:List nP}{s:ByteArray}{r1 r2 bx:Nat}(h:s ∉ L.map (·.1)):sV L (gs++[(s,r1,r2,bx)])=sV L gs++[(r1,dX []),(r2,dX []),(bx,dX [])]:=by
 unfold sV;rw[b5];simp only[cu,List.flatMap_nil,eb,oE,jn,ka,mQ,aa7 h];rfl
theorem nS.push{rg:Nat}{L:List ik}{gs:List nP}{X:List (Nat×Obj)}(h:nS rg L gs X){s:ByteArray}(ae:s ∉ gs.map (·.1)){r1 r2 bx:Nat}(hf:∀r∈[r1,r2,bx],r ∉ X.map du)(ao:[r1,r2,bx].Nodup):
  nS rg L (gs++[(s,r1,r2,bx)]) ((rg,kp (gG gs++[(s,s6 (s,r1,r2,bx))]))::(sV L gs++[(r1,dX []),(r2,dX []),(bx,dX [])])):=by
 have cq:s ∉ L.map (·.1):=λaU=>by
  obtain⟨y,aw,rfl⟩:=aA.1 aU;exact ae (h.IS y aw)
 have aj:∀r∈[r1,r2,bx],r≠rg/\r ∉ gs.flatMap nx:=λr hr=>by
  have:=hf r hr;rw[h.lr,aM,TJ]at this;simpa using this
 refine⟨?_,?_,?_,λy aw=>?_⟩
 .rw [aei cq];unfold gG;rw[a6];rfl
 .rw [b5];have e:[(s,r1,r2,bx)].flatMap nx=[r1,r2,bx]:=rfl;rw[e,<-List.cons_append,dn];refine⟨h.eM,ao,λx U y aw=>?_⟩;obtain⟨I,aa⟩:=aj y aw;rintro rfl;rcases aQ.1 U with U|U
  .exact I U
  .exact aa U
 .rw [a6,dn];refine⟨h.OR,by simp,λx U y aw=>?_⟩;simp only[aM,cT,c_]at aw;subst aw;rintro rfl;exact ae U
 .rw [a6];exact List.mem_append_left _ (h.IS y aw)
theorem Sm{L:List ik}{y:ik}{s:ByteArray}:lX (L++[y]) s=if(y.1==s)=true then lX L s++[y]else lX L s:=by
 unfold lX;rw[List.filter_append];by_cases h:(y.1==s)=true
 .rw [if_pos h];simp[h]
 .rw [if_neg h];simp[h]
theorem aeq{l:List ByteArray}{k:ByteArray}:hj (l++[k])=gw k (hj l):=by
 unfold hj;rw[List.foldl_append];rfl
theorem nS.lH{rg:Nat}{L:List ik}{gs:List nP}{X:List (Nat×Obj)}(h:nS rg L gs X){g:nP}(ak:g∈gs){s2 d_:ByteArray}:
  nS rg (L++[(g.1,s2,d_)]) gs ((rg,kp (gG gs))::sV (L++[(g.1,s2,d_)]) gs) /\
  ((g.2.1,dX (jn L g.1))∈X/\(g.2.2.1,dX (ka L g.1))∈X/\(g.2.2.2,dX (mQ L g.1))∈X)/\(g.2.1≠g.2.2.1/\g.2.1≠g.2.2.2/\g.2.2.1≠g.2.2.2) /\
  ∀b∈(rg,kp (gG gs))::sV (L++[(g.1,s2,d_)]) gs,b∈lG g.2.2.2 (dX (gw (s2++d_) (mQ L g.1))) (lG g.2.2.1 (dX (gw d_ (ka L g.1))) (lG g.2.1 (dX (gw s2 (jn L g.1))) X)):=by
 have mem:∀b∈oE L g,b∈X:=λb ag=>by
  rw[h.lr];exact cA _ (bL.2 ⟨g,ak,ag⟩)
 have I5:(nx g).Nodup:=by
  have:=(bB.1 h.eM).2;rw[ba,cD]at this;rw[ba];exact this.1 g ak
 have sb:g.2.1≠g.2.2.1/\g.2.1≠g.2.2.2/\g.2.2.1≠g.2.2.2:=by
  simp only[nx,bB,aQ,bo,or_false,not_or]at I5;exact⟨I5.1.1,I5.1.2,I5.2.1⟩
 refine⟨⟨rfl,h.eM,h.OR,λy aw=>?_⟩,⟨mem _ (by simp[oE]),mem _ (by simp[oE]),mem _ (by simp[oE])⟩,sb,?_⟩
 .rcases b3.1 aw with aw|aw
  .exact h.IS y aw
  .simp only[c_]at aw;subst aw;exact aA.2 ⟨g,ak,rfl⟩
 ·
  have st:∀(b:Nat×Obj),b∈X->b.1≠g.2.1->b.1≠g.2.2.1->b.1≠g.2.2.2->b∈lG g.2.2.2 (dX (gw (s2++d_) (mQ L g.1))) (lG g.2.2.1 (dX (gw d_ (ka L g.1))) (lG g.2.1 (dX (gw s2 (jn L g.1))) X)):=λb ag I aa aB=>
   aA.2 ⟨b,aA.2 ⟨b,aA.2 ⟨b,ag,if_neg I⟩,if_neg aa⟩,if_neg aB⟩
  intro b ag;rcases aQ.1 ag with rfl|ag
  .have Ez:=(bB.1 h.eM).1;have:∀r∈nx g,rg≠r:=λr hr he=>Ez (bL.2 ⟨g,ak,he ▸ hr⟩);exact st _ (by rw[h.lr];simp) (this _ (by simp[nx])) (this _ (by simp[nx])) (this _ (by simp[nx]))
  .obtain ⟨fG,hL,mD⟩:=bL.1 ag;by_cases he:fG=g
   .subst he;have gn:((fG.1==fG.1)=true):=(ml _ _).2 rfl;simp only[oE,jn,ka,mQ,Sm,if_pos gn,a6,aM,cT,aeq]at mD;simp only[aQ,bo,or_false]at mD;rcases mD with rfl|rfl|rfl
    .refine aA.2 ⟨_,aA.2 ⟨_,aA.2 ⟨_,mem (fG.2.1,dX (jn L fG.1)) (by simp[oE]),if_pos rfl⟩,if_neg ?_⟩,if_neg ?_⟩
     .exact sb.1
     .exact sb.2.1
    .refine aA.2 ⟨_,aA.2 ⟨_,aA.2 ⟨_,mem (fG.2.2.1,dX (ka L fG.1)) (by simp[oE]),if_neg ?_⟩,if_pos rfl⟩,if_neg ?_⟩
     .exact sb.1.symm
     .exact sb.2.2
    .refine aA.2 ⟨_,aA.2 ⟨_,aA.2 ⟨_,mem (fG.2.2.2,dX (mQ L fG.1)) (by simp[oE]),if_neg ?_⟩,if_neg ?_⟩,if_pos rfl⟩
     .exact sb.2.1.symm
     .exact sb.2.2.symm
   .have aj:fG.1≠g.1:=λaj=>he (by
     have ao:=h.OR;rw[ba,List.pairwise_map]at ao;rcases Hk ao hL ak with h|h|h
     .exact h
     .exact absurd aj h
     .exact absurd aj.symm h)
    have akX:¬(g.1==fG.1)=true:=λau=>aj ((ml _ _).1 au).symm;have yB:oE (L++[(g.1,s2,d_)]) fG=oE L fG:=by
     simp only[oE,jn,ka,mQ,Sm,if_neg akX]
    rw[yB]at mD;have aiu:b∈X:=by rw[h.lr];exact cA _ (bL.2 ⟨fG,hL,mD⟩)
    have kY:b.1∈nx fG:=by
     simp only[oE,aQ,bo,or_false]at mD;rcases mD with rfl|rfl|rfl<;>simp[nx]
    have wW:∀r∈nx g,b.1≠r:=λr hr WI=>by
     have:=(bB.1 h.eM).2;rw[ba,cD]at this;rcases Hk this.2 hL ak with h|h|h
     .exact he h
     .exact h _ kY _ hr WI
     .exact h _ hr _ kY WI.symm
    exact st b aiu (wW _ (by simp[nx])) (wW _ (by simp[nx])) (wW _ (by simp[nx]))
section
variable{P:Program}{o:Oper}{a:Act}{w:World}
theorem FV{t:Nat}(an:o.op=.makeMap t none):(execOp a.eval o).run P w=.ok (.value (.map (some w.heap.size))) (w.alloc (.map #[] 0)):=by
 simp only[execOp,an,Option.map_none,Instr.makeMap,Sem.run_bind,Sem.run_pure,Result.andThen_ok,run_newObj];rfl
theorem K_{t r:Nat}{x:Operand}{c:Call}(an:o.op=.call c)(ad:c={ callee:=.builtin .len,args:=#[x],argTypes:=#[t] })(U:a.eval x=.map (some r)){kt e fF:Nat}{es:Array MapEntry}(gq:P.underlying t=some (.map kt e))(aU:w.heap[r]?=some (.map es fF)):
  (execOp a.eval o).run P w=.ok (.value (goInt es.size)) w:=by
 have gA:=Zv (P:=P) (t:=t) (kt:=kt) (e:=e) (w:=w) (r:=r) (u:=o.type) gq aU;subst ad;simp only[execOp,an,resolve,Sem.run_bind,Sem.run_pure,Result.andThen_ok,invoke,builtin,List.map_toArray,aM,cT,U,gA]
theorem QT{t:Nat}{x k:Operand}(an:o.op=.lookup t x k true){v:Value}(h:(Instr.lookup t (a.eval x) (a.eval k) true).run P w=.ok v w):(execOp a.eval o).run P w=.ok (.value v) w:=by
 simp only[execOp,an,Sem.run_bind,h,Result.andThen_ok,Sem.run_pure]
theorem Zl{t:Nat}{m k v:Operand}(an:o.op=.mapUpdate t m k v){w':World}(h:(Instr.mapUpdate t (a.eval m) (a.eval k) (a.eval v)).run P w=.ok () w'):(execOp a.eval o).run P w=.ok .skip w':=by
 simp only[execOp,an,Sem.run_bind,h,Result.andThen_ok,Sem.run_pure]
theorem ZW{t:Nat}{x:Operand}(an:o.op=.range t x){v:Value}{w':World}(h:(Instr.range t (a.eval x)).run P w=.ok v w'):(execOp a.eval o).run P w=.ok (.value v) w':=by
 simp only[execOp,an,Sem.run_bind,h,Result.andThen_ok,Sem.run_pure]
theorem Sf{x:Operand}(an:o.op=.next x false){v:Value}{w':World}(h:(Instr.next (a.eval x) false o.type).run P w=.ok v w'):(execOp a.eval o).run P w=.ok (.value v) w':=by
 simp only[execOp,an,Sem.run_bind,h,Result.andThen_ok,Sem.run_pure]
theorem ZV{x:Operand}(an:o.op=.entry x){v:Value}{w':World}(h:(Instr.entry (a.eval x)).run P w=.ok v w'):(execOp a.eval o).run P w=.ok (.value v) w':=by
 simp only[execOp,an,Sem.run_bind,h,Result.andThen_ok,Sem.run_pure]
end
def j_(v:Value):T:=.leaf (.lit v) v
def m5(l:List Value):T:=.agg (l.map j_)
theorem Ux{M:Mem}:∀{l:List Value},(∀v∈l,v.oneCell'=true)->T.ga M (l.map j_)
 |[],_=>by simp[T.ga]
 |v::l,h=>by
  simp only[aM,T.ga,j_,T.wf,bu];exact⟨.inr ⟨trivial,h v (by simp)⟩,Ux λu hu=>h u (by simp[hu])⟩
theorem Lp:∀{l:List Value},T.ho (l.map j_)
 |[]=>by simp[T.ho]
 |v::l=>by
  simp only[aM,T.ho];exact⟨by simp[j_,T.tidy],Lp⟩
theorem K8:∀{l:List Value},T.g7 (l.map j_)=l.map D.lit
 |[]=>rfl
 |v::l=>by simp only[aM,T.g7,K8];rfl
theorem LY:∀{l:List Value},T.bP (l.map j_)=l
 |[]=>rfl
 |v::l=>by simp only[aM,T.bP,LY];rfl
theorem Ku:∀{l:List Value},T.bq (l.map j_)=[]
 |[]=>rfl
 |v::l=>by simp only[aM,T.bq,Ku];rfl
theorem Lx{g:nP}:∀v∈([Value.map (some g.2.1),.map (some g.2.2.1),.map (some g.2.2.2)]:List Value),v.oneCell'=true:=by
 intro v av;simp only[aQ,bo,or_false]at av;rcases av with rfl|rfl|rfl<;>rfl
section
variable{n:Nat}{R:Nat->Value}{M:Mem}{B:List Nat}{w0:World}{a:Act}{w:World}{F:Fr}{X:List (Nat×Obj)}
theorem eP.bt(h:eP n R M B w0 F X a w){l1 l l2:List Value}(I:∀v∈l1,v.oneCell'=true)(aO:∀v∈l,v.oneCell'=true)(aa:∀v∈l2,v.oneCell'=true)(dst:Option Nat)(ah:∀d,dst=some d->d<n):
  eP n R M B w0 (fin F dst (.bt (l1.map D.lit++.agg (l.map D.lit)::l2.map D.lit))) X (a.put dst (.tuple (l1++.agg l.toArray::l2).toArray)) w:=by
 have U1:∀(x y:List T),T.g7 (x++y)=T.g7 x++T.g7 y:=λx y=>by rw[T.hz,T.hz,T.hz,a6]
 have MJ:∀(x y:List T),T.bP (x++y)=T.bP x++T.bP y:=λx y=>by rw[T.ny,T.ny,T.ny,a6]
 have U2:∀(x y:List T),T.bq (x++y)=T.bq x++T.bq y:=λx y=>by rw[T.sW,T.sW,T.sW,b5]
 have:=h.put (t:=.bt (l1.map j_++m5 l::l2.map j_)) (by
  simp only[T.tidy,T.o4];intro x U;rcases b3.1 U with U|U
  .obtain ⟨v,_,rfl⟩:=aA.1 U;simp[j_,T.tidy]
  .rcases aQ.1 U with rfl|U
   .simp only[m5,T.tidy];exact Lp
   .obtain ⟨v,_,rfl⟩:=aA.1 U;simp[j_,T.tidy]) (λM G=>by
  simp only[fg];intro x U;rcases b3.1 U with U|U
  .obtain ⟨v,av,rfl⟩:=aA.1 U;simp only[j_,qc,bu];exact .inr ⟨trivial,I v av⟩
  .rcases aQ.1 U with rfl|U
   .simp only[m5,qc];exact Ux aO
   .obtain ⟨v,av,rfl⟩:=aA.1 U;simp only[j_,qc,bu];exact .inr ⟨trivial,aa v av⟩) (by
  simp only[T.blocks,U2,Ku,T.bq,m5,List.nil_append,eb]) dst ah
 have aT:T.erase (.bt (l1.map j_++m5 l::l2.map j_))=.bt (l1.map D.lit++.agg (l.map D.lit)::l2.map D.lit):=by
  simp only[T.erase,U1,K8,T.g7,m5]
 have a5:T.val (.bt (l1.map j_++m5 l::l2.map j_))=.tuple (l1++.agg l.toArray::l2).toArray:=by
  simp only[T.val,MJ,LY,T.bP,m5]
 rw[aT,a5]at this;exact this
theorem eP.alF(h:eP n R M B w0 F X a w){l:List Value}(I:∀v∈l,v.oneCell'=true)(dst:Option Nat)(ah:∀d,dst=some d->d<n):
  eP n R M B w0 (fin F dst (.bt (l.map D.lit))) X (a.put dst (.tuple l.toArray)) w:=by
 have:=h.put (t:=.bt (l.map j_)) (by
  simp only[T.tidy];exact Lp) (λM G=>by
  simp only[fg];intro x U;obtain⟨v,av,rfl⟩:=aA.1 U;simp only[j_,qc,bu];exact .inr ⟨trivial,I v av⟩) (by
  simp only[T.blocks,Ku]) dst ah
 have aT:T.erase (.bt (l.map j_))=.bt (l.map D.lit):=by simp only[T.erase,K8]
 have a5:T.val (.bt (l.map j_))=.tuple l.toArray:=by simp only[T.val,LY]
 rw[aT,a5]at this;exact this
end
theorem ca.ak9{E:Env}{n id:Nat}{ops ops':Array Oper}{d:Bool}{F:Fr}{X:List (Nat×Obj)}{Q:dU->Fr->List (Nat×Obj)->Prop}(h:ops=ops')(k:ca E n (.region id ops' d) F X Q):ca E n (.region id ops d) F X Q:=by rw[h];exact k
theorem ca.alP{E:Env}{n:Nat}{fi:Code}{F:Fr}{X:List (Nat×Obj)}{Q:dU->Fr->List (Nat×Obj)->Prop}(h:ca E n fi F X λe F X=>∃X',(∀b∈X',b∈X)/\Q e F X'):ca E n fi F X Q:=by
 intro R M B w0 a w ei hf ak af cl;refine h R M B w0 a w ei hf ak af ?_;rintro e aD X' cp w' ⟨agD,ae,q⟩ fy;exact cl e aD agD cp w' q (fy.sub ae)
theorem dP.p0{E:Env}{n:Nat}{F aX:Fr}{X:List (Nat×Obj)}{Q:dU->Fr->List (Nat×Obj)->Prop}{call:Nat->List D->Option (D×List D)}{ops:Array Oper}(cn:lL E call)(f:Nat)(V l rest:List Nat){iG:List Nat}(hl:iG=l++rest)(dZ:V.Nodup)(h:(fQ E f V call ops l F).map (norm V)=some aX)(k:dP E n ops rest aX X Q):dP E n ops iG F X Q:=by
 rw[Option.map_eq_some_iff]at h;obtain⟨bN,I,aa⟩:=h;exact dP.run cn f V l rest hl I (dP.kD dZ aX aa k)
theorem nS.ale{rg:Nat}{L:List ik}{gs:List nP}{X:List (Nat×Obj)}(h:nS rg L gs X){r1 r2 bx:Nat}(hf:∀r∈[r1,r2,bx],r ∉ X.map du)(o:Obj):
  ∀b∈(rg,o)::(sV L gs++[(r1,dX []),(r2,dX []),(bx,dX [])]),b∈lG rg o ((bx,.map #[] 0)::(r2,.map #[] 0)::(r1,.map #[] 0)::X):=by
 have Ez:rg∈X.map du:=by rw[h.lr];simp
 have cI:∀r∈[r1,r2,bx],r≠rg:=λr hr he=>hf r hr (he ▸ Ez);intro b ag;rcases aQ.1 ag with rfl|ag
 .refine aA.2 ⟨(rg,kp (gG gs)),?_,if_pos rfl⟩;rw[h.lr];simp
 rcases b3.1 ag with ag|ag
 .have j9:b.1≠rg:=λhe=>by
   have:=(bB.1 h.eM).1;rw[<-TJ (L:=L)]at this;exact this (he ▸ aA.2 ⟨b,ag,rfl⟩)
  refine aA.2 ⟨b,?_,if_neg j9⟩;rw[h.lr];simp[ag]
 .simp only[aQ,bo,or_false]at ag;rcases ag with rfl|rfl|rfl
  .exact aA.2 ⟨(r1,.map #[] 0),by simp,if_neg (cI _ (by simp))⟩
  .exact aA.2 ⟨(r2,.map #[] 0),by simp,if_neg (cI _ (by simp))⟩
  .exact aA.2 ⟨(bx,.map #[] 0),by simp,if_neg (cI _ (by simp))⟩
theorem Ry{gs:List (ByteArray×Value)}{e:MapEntry}(h:e∈(T.entries (jH gs)).toList):∃j g,gs[j]?=some g/\e={ key:=.string g.1,val:=g.2,born:=j }:=by
 unfold T.entries at h;simp only[cc,aA]at h;obtain⟨x,U,rfl⟩:=h;obtain⟨j,aH⟩:=List.getElem?_of_mem U;obtain⟨g,I,rfl⟩:=Tl aH;exact⟨j,g,I,rfl⟩
theorem Tm{gs:List (ByteArray×Value)}{j:Nat}{g:ByteArray×Value}(h:gs[j]?=some g):({ key:=.string g.1,val:=g.2,born:=j }:MapEntry)∈(T.entries (jH gs)).toList:=by
 unfold T.entries;simp only[cc,aA];refine⟨(.string g.1,j,.undef,g.2),List.mem_of_getElem? (i:=j) ?_,rfl⟩;unfold jH;rw[List.getElem?_map,List.getElem?_zipIdx,h];simp
theorem aa4{gs:List (ByteArray×Value)}:(T.entries (jH gs)).toList.map (·.born)=List.range gs.length:=by
 unfold T.entries jH;rw[cc,List.map_map,List.map_map];have:∀(l:List (ByteArray×Value))(m:Nat),(l.zipIdx m).map (((λx:MapEntry=>x.born) ∘ λx:Value×Nat×D×Value=>({ key:=x.1,val:=x.2.2.2,born:=x.2.1 }:MapEntry)) ∘ λx:(ByteArray×Value)×Nat=>((Value.string x.1.1:Value),x.2,D.undef,x.1.2))=List.range' m l.length:=by
  intro l
  induction l with
  |nil=>intro m;rfl
  |cons a l aN=>intro m;simp only[List.zipIdx_cons,aM,dR,List.range'_succ,aN (m+1)];rfl
 rw[List.range_eq_range'];exact this gs 0
theorem abq{ks:List ByteArray}:(T.entries (mg ks)).size=ks.length:=by simp[T.entries,mg]
theorem He:∀(l acc:List ByteArray),(l.foldl (λacc k=>gw k acc) acc).length<=acc.length+l.length
 |[],acc=>by simp
 |k::l,acc=>by
  have I:=He l (gw k acc);have aa:(gw k acc).length<=acc.length+1:=by
   unfold gw
   split
   .omega
   .simp
  simp only[List.foldl_cons,dR]at I⊢;omega
theorem afS{L:List ik}{s:ByteArray}:(jn L s).length<=L.length/\(ka L s).length<=L.length/\(mQ L s).length<=L.length:=by
 have ak:(lX L s).length<=L.length:=List.length_filter_le _ _;refine⟨?_,?_,?_⟩
 .have:=He ((lX L s).map λy=>y.2.1) [];simp only[cz,cx]at this;show(hj _).length<=_;unfold hj;omega
 .have:=He ((lX L s).map λy=>y.2.2) [];simp only[cz,cx]at this;show(hj _).length<=_;unfold hj;omega
 .have:=He ((lX L s).map λy=>y.2.1++y.2.2) [];simp only[cz,cx]at this;show(hj _).length<=_;unfold hj;omega
def vq(L:List ik)(s:ByteArray):Prop:=(jn L s).length*(ka L s).length=(mQ L s).length
theorem LS{L:List ik}:sf L=true↔∀x∈L,vq L x.1:=by
 unfold sf;rw[List.all_eq_true];refine⟨λh x U=>?_,λh x U=>?_⟩
 .have:=h x U;simpa[vq,jn,ka,mQ]using this
 .have:=h x U;simpa[vq,jn,ka,mQ]using this
theorem aaS{L:List ik}{s:ByteArray}(h:L.length<=1000000):IntKind.i64.wrap (((jn L s).length:Int)*((ka L s).length:Int))=(((jn L s).length*(ka L s).length:Nat):Int):=by
 obtain⟨I,aa,_⟩:=afS (L:=L) (s:=s);have aB:(jn L s).length*(ka L s).length<=1000000*1000000:=Nat.mul_le_mul (by omega) (by omega);rw[<-Int.natCast_mul];generalize(jn L s).length*(ka L s).length=p at aB⊢;(try rw[Jy]);rw[IntKind.wrap_i64];omega
theorem acn{es:Array MapEntry}{seen:Array Nat}(h:(leftOf es seen).size=0):∀e∈es.toList,e.born∈seen.toList:=by
 intro e he;have aO:leftOf es seen=#[]:=Array.eq_empty_of_size_eq_zero h;unfold leftOf at aO;rw[Array.filter_eq_empty_iff]at aO;have:=aO e (by simpa using he);simpa using this
theorem aco{es:Array MapEntry}{seen:Array Nat}{e:MapEntry}(h:e∈(leftOf es seen).toList):e∈es.toList/\e.born ∉ seen.toList:=by
 unfold leftOf at h;simp only[Array.mem_toList_iff,Array.mem_filter]at h;refine⟨by simpa using h.1,?_⟩;have:=h.2;simpa using this
end Go.aS
