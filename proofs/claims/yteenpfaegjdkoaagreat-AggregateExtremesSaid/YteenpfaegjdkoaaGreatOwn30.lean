/- An interpreter of function bodies without memory, proved sound for the model. No conditions. -/
import Derived.ChangeSame
import Derived.RowKit
import Derived.Test.YteenpfaegjdkoaaGreatOwn27
set_option linter.all false

namespace Go.Own
open D Go.ChangeShapes Go.RowKit
def TyA (P:Program) (k:Nat) (t:TypeId) (d:D):Prop:=
 match P.underlying t with
 | some (.struct _)=>∃ ds,d=.agg ds∧Ty P k t ds
 | some (.array _ _)=>∃ ds,d=.agg ds∧Ty P k t ds
 | _=>Ty P k t [d]
def TyAll (P:Program) (k:Nat):List TypeId→List D→Prop
 | [],ds=>ds=[]
 | t::ts,ds=>∃ d ds',ds=d::ds'∧TyA P k t d∧TyAll P k ts ds'
theorem lift_arg {H:Type} {enc:TypeId×Value→H} {P:Program} {w:World} {base b0:Nat} {r:Reach} {sp:Nat→Bool} {held:Bool} {k:Nat} {t:TypeId} {v:Value} {d:DataW H} {ps:List MemPlace}
  (hp:plainT P k t=true) (hval:Value.okWide P w r b0 t v) (hd:DataW.Trod enc P w base sp held t v d ps) :
  ∃ tr:T,tr.val=v∧tr.tidy∧Giv (fun g=>w.heap[g]?) tr∧tr.blocks=[]∧TyA P k t tr.erase:=by
 obtain ⟨fuel,hf⟩:=hd
 obtain ⟨ds,h1,h2⟩:=lift_trod k fuel t _ _ hp hf
 have agg:(∃ cs,v=.agg cs)→∃ tr:T,tr.val=v∧tr.tidy∧Giv (fun g=>w.heap[g]?) tr∧tr.blocks=[]∧tr.erase=.agg ds:=by
  rintro ⟨cs,rfl⟩
  obtain ⟨ts,b1,b2,b3,b4,b5⟩:=RCs_trees h1
  refine ⟨.agg ts,?_,b3,b4,?_,?_⟩
  ·simp [T.val,b2,Value.cells]
  ·simp only [T.blocks,T.blocksC_eq,List.flatMap_eq_nil_iff];exact b5
  ·simp only [T.erase,T.eraseC_eq,b1]
 have one:(∀ cs,v≠.agg cs)→∃ d,ds=[d]∧∃ tr:T,tr.val=v∧tr.tidy∧Giv (fun g=>w.heap[g]?) tr∧tr.blocks=[]∧tr.erase=d:=by
  intro hv
  have hc:v.cells.toList=[v]:=by cases v<;>first | rfl | exact absurd rfl (hv _)
  rw [hc] at h1
  have hl:=RCs.length h1
  match ds,hl,h1 with
  | [d],_,h1=>
   obtain ⟨ts,b1,b2,b3,b4,b5⟩:=RCs_trees h1
   match ts,b1 with
   | [tr],b1=>
    simp only [List.map_cons,List.map_nil,List.cons.injEq,and_true] at b1
    simp only [T.vals,List.cons.injEq,and_true] at b2
    refine ⟨d,rfl,tr,b2,b3.1,?_,b5 tr (by simp),b1⟩
    obtain ⟨_,_,e1,e2,_⟩:=h1
    have hr:RI (fun g=>w.heap[g]?) d v:=by cases e1;exact e2
    refine Giv_of_wf b4.1 ?_
    rw [b1]
    rintro rfl
    simp [RI] at hr
 unfold TyA
 cases hu:P.underlying t with
 | none=>simp only [Value.okWide,hu,Cell.okWide,Cell.ok] at hval
 | some ty=>
  cases ty with
  | struct fs=>
   simp only [Value.okWide,hu] at hval
   obtain ⟨cs,hv,_⟩:=hval
   obtain ⟨tr,a,b,c,e,f⟩:=agg ⟨cs,hv⟩
   exact ⟨tr,a,b,c,e,ds,f,h2⟩
  | array n e=>
   simp only [Value.okWide,hu] at hval
   obtain ⟨cs,hv,_⟩:=hval
   obtain ⟨tr,a,b,c,e,f⟩:=agg ⟨cs,hv⟩
   exact ⟨tr,a,b,c,e,ds,f,h2⟩
  | _=>
   obtain ⟨d',rfl,tr,a,b,c,e,rfl⟩:=one fun cs hv=>by
    subst hv
    first
     | (simp only [Value.okWide,hu,Cell.okWide,Cell.ok] at hval;done)
     | (simp only [Value.okWide,hu,Cell.okWide,Cell.ok] at hval;exact hval)
   exact ⟨tr,a,b,c,e,h2⟩
theorem lift_args {H:Type} {enc:TypeId×Value→H} {P:Program} {w:World} {base b0:Nat} {r:Reach} {sp:Nat→Bool} {held:Bool} {k:Nat} :
  ∀ (ts:List TypeId) (vs:List Value) (ds:List (DataW H)) (ps:List MemPlace),(∀ t∈ts,plainT P k t=true)→DataW.TrodAll enc P w base sp held ts vs ds ps →
   (∀ (j:Nat) t v,ts[j]? = some t→vs[j]? = some v→Value.okWide P w r b0 t v) →
   ∃ trs:List T,T.vals trs=vs∧(∀ t∈trs,t.tidy∧Giv (fun g=>w.heap[g]?) t)∧T.blocksC trs=[]∧TyAll P k ts (trs.map T.erase)
 | [],vs,ds,ps,_,h,_=>by
  obtain ⟨rfl,rfl,rfl⟩:=trodAll_nil h
  exact ⟨[],rfl,by simp,rfl,rfl⟩
 | t::ts,vs,ds,ps,hp,h,hv=>by
  obtain ⟨v,vs',d,ds',p,q,rfl,rfl,rfl,h1,h2⟩:=trodAll_cons h
  obtain ⟨tr,a1,a2,a3,a4,a5⟩:=lift_arg (hp t (by simp)) (hv 0 t v rfl rfl) h1
  obtain ⟨trs,b1,b2,b3,b4⟩:=lift_args ts vs' ds' q (fun t ht=>hp t (by simp [ht])) h2 (fun j t v h3 h4=>hv (j+1) t v (by simpa using h3) (by simpa using h4))
  refine ⟨tr::trs,by simp [T.vals,a1,b1],?_,by simp [T.blocksC,a4,b3],_,_,rfl,a5,b4⟩
  intro x hx
  rcases List.mem_cons.1 hx with rfl | hx
  ·exact ⟨a2,a3⟩
  ·exact b2 x hx
theorem lentsT_none {E:Env} {f:Nat}:∀ (ts:List T) (i:Nat),(∀ j,E.mode f j≠.inout)→lentsT E f i ts=[]
 | [],_,_=>rfl
 | t::ts,i,h=>by simp [lentsT,h i,lentsT_none ts (i+1) h]
theorem lift_call {H:Type} {enc:TypeId×Value→H} {E:Env} (hE:EnvOK E) {w:World} {base b0:Nat} {r:Reach} {sp:Nat→Bool} {held:Bool} {k f:Nat} {fd:Func} {c:Code}
  {ts:List TypeId} {args:Array Value} {ds:List (DataW H)} {ps:List MemPlace}
  (hf:E.P.funcs[f]? = some fd) (hn:E.prim f=none) (hb:fd.body=some c) (hmode:∀ j,E.mode f j≠.inout)
  (hp:∀ t∈ts,plainT E.P k t=true) (hd:DataW.TrodAll enc E.P w base sp held ts args.toList ds ps)
  (hv:∀ (j:Nat) t v,ts[j]? = some t→args[j]? = some v→Value.okWide E.P w r b0 t v)
  (hgd:Good E (fun g=>w.heap[g]?)) (contract:∀ xs,TyAll E.P k ts xs→Ret E f xs (.lit (.bool true)) []) :
  Calls E.P f args w fun e w'=>e=.returned (.bool true)∧Below w.heap.size w w':=by
 obtain ⟨trs,h1,h2,h3,h4⟩:=lift_args ts args.toList ds ps hp hd (fun j t v a b=>hv j t v a (by simpa using b))
 obtain ⟨n,hn'⟩:=contract _ h4
 have hok:=callN_ok hE n f _ _ _ (hn' n (Nat.le_refl n)) (fun g=>w.heap[g]?) w trs rfl h2 (by rw [lentsT_none trs 0 hmode];simp) (by rw [h3];exact BlkOK.nil _ _) (fun g o h=>h) hgd
 rw [h1] at hok
 unfold Does at hok
 rw [run_callFunc hf (hE.name f fd hf hn) hb] at hok
 refine Calls.mono hok fun e w' ⟨M',t,touts,he,ht,htd,hr,_,_,_,hB,hM,hev⟩=>?_
 rw [h3] at hev
 have htv:t.val=.bool true:=by
  cases t with
  | leaf d v=>
   simp only [T.erase] at ht
   subst ht
   have hr:RI M' (.lit (.bool true)) v:=hr
   simp only [RI] at hr
   exact hr.1
  | _=>simp [T.erase] at ht
 refine ⟨by rw [he,htv],hev.os,hev.tape,hev.output,hev.size,fun g hg=>hev.out g hg (by simp [keys])⟩
end Go.Own
