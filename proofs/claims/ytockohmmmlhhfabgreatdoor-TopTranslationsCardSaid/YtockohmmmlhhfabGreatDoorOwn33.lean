/- An interpreter of function bodies, sound. No conditions. -/
import Derived.Carry
import Derived.OpenShut
import Derived.Lib.Strings
import Derived.Test.YtockohmmmlhhfabGreatDoorOwn31
import Derived.Test.YtockohmmmlhhfabGreatDoorOwn17
import Derived.Test.YtockohmmmlhhfabGreatDoorOwn27
set_option linter.all false
namespace Go.Own
open D
def Dec {α:Type} (R:List D->Prop) (ok:α->Prop) (e:Enc α):Prop:=∀ ds,R ds->∃ x,ok x/\ds=e x
def okI (q:IntKind) (n:Int):Prop:=q.min<=n/\n<=q.max
def okL {α:Type} (ok:α->Prop) (l:List α):Prop:=l.length<=maxLen/\∀ x∈l,ok x
section
variable {P:Program} {k t e n:Nat} {α:Type} {ok:α->Prop} {ee:Enc α}
theorem Ag5 {q:IntKind} (h:P.underlying t=some (.int q)):Dec (Ty P (k+1) t) (okI q) (eI q):=fun ds hd=>by
 simp only [Ty,h] at hd;obtain ⟨n,h1,rfl⟩:=hd;refine ⟨n,?_,rfl⟩;simpa [Lit.wf,okI] using h1
theorem Auc {R:List D->Prop} (h:Dec R ok ee):∀ {es:List (List D)},(∀ x∈es,R x)->∃ l:List α,(∀ x∈l,ok x)/\es=l.map ee
 | [],_=>⟨[],by simp,rfl⟩
 | c::es,hr=>by
  obtain ⟨x,h1,rfl⟩:=h c (hr c (by simp));obtain ⟨l,h2,rfl⟩:=Auc h (es:=es) (fun y hy=>hr y (by simp [hy]));exact ⟨x::l,by simpa using ⟨h1,h2⟩,rfl⟩
theorem Ahg (h:P.underlying t=some (.slice e)) (hd:Dec (Ty P k e) ok ee):Dec (Ty P (k+1) t) (okL ok) (eSl ee):=fun ds hs=>by
 simp only [Ty,h] at hs;obtain ⟨es,h1,rfl,h2⟩:=hs;obtain ⟨l,h3,rfl⟩:=Auc hd h2;exact ⟨l,⟨by simpa using h1,h3⟩,rfl⟩
def TyTs (R:TypeId->List D->Prop):List TypeId->List D->Prop
 | [],ds=>ds=[]
 | t::ts,ds=>∃ a b,ds=a++b/\R t a/\TyTs R ts b
theorem Awv {R:TypeId->List D->Prop}:∀ {fs:List Field} {ds:List D},TyFs R fs ds->TyTs R (fs.map (·.type)) ds
 | [],_,h=>h
 | f::fs,ds,h=>by
  obtain ⟨a,b,h1,h2,h3⟩:=h;exact ⟨a,b,h1,h2,Awv h3⟩
def Aj1 (P:Program) (t:Nat):Option (List TypeId):=match P.underlying t with
 | some (.struct fs)=>some (fs.toList.map (·.type))
 | _=>none
theorem An8 {ts:List TypeId} {ds:List D} (h:Aj1 P t=some ts) (hd:Ty P (k+1) t ds):TyTs (Ty P k) ts ds:=by
 unfold Aj1 at h
 split at h
 ·rename_i fs hu;simp only [zJ] at h;subst h;simp only [Ty,hu] at hd;exact Awv hd
 ·cases h
theorem Arv {d:D} (h:isAggT P t=true) (hd:TyA P k t d):∃ ds,d=.agg ds/\Ty P k t ds:=by
 unfold isAggT at h;unfold TyA at hd
 split at h
 ·rename_i hu;rw [hu] at hd;exact hd
 ·rename_i hu;rw [hu] at hd;exact hd
 ·cases h
end
end Go.Own

namespace Go.Own
open D Go.ChangeShapes Go.RowKit Go.WideShapes
theorem At7 {H:Type} {enc:TypeId×Value->H} {P:Program} (hl:laidOutB P=true) {W W':World} (hb:Below W.heap.size W W') {sp:Nat->Bool} :
  ∀ (ts:List TypeId) (vs:List Value) (ds:List (DataW H)) (ps:List MemPlace),(∀ t∈ts,P.readableRec t=true/\t<P.types.size)->DataW.TrodAll enc P W 0 (fun _=>true) true ts vs ds ps ->
   (∀ p∈ps,p.block<W.heap.size)->(∀ p∈ps,sp p.block=true)->DataW.TrodAll enc P W' 0 sp true ts vs ds ps
 | [],vs,ds,ps,_,h,_,_=>by
  obtain ⟨rfl,rfl,rfl⟩:=trodAll_nil h;exact rfl
 | t::ts,vs,ds,ps,ht,h,hlt,hsp=>by
  obtain ⟨v,vs',d,ds',p,q,rfl,rfl,rfl,h1,h2⟩:=trodAll_cons h;exact trodAll_cons_mk (WideElems.Trod_stays hl (ht t (by simp)).1 (ht t (by simp)).2 h1 (fun x hx=>hb.same (hlt x (by simp [hx]))) (fun x hx=>hsp x (by simp [hx])))
   (At7 hl hb ts vs' ds' q (fun t h=>ht t (by simp [h])) h2 (fun p hp=>hlt p (by simp [hp])) (fun p hp=>hsp p (by simp [hp])))
theorem row_contract {H:Type} {enc:TypeId×Value->H} {E:Env} (hE:EnvOK E) {s:ChangeSpec} {k f:Nat} {fd:Func} {c:Code} {ts:List TypeId} {tb:TypeId} {base:Nat}
  {W:World} {args:Array Value} {ds gs:List (DataW H)} {before:List MemPlace}
  (hf:E.P.funcs[f]? = some fd) (hn:E.prim f=none) (hbd:fd.body=some c) (hmode:∀ j,E.mode f j≠.inout) (hts:fd.params=ts.toArray) (hrt:fd.resultTypes=#[tb]) (htb:E.P.underlying tb=some .bool)
  (hp:∀ t∈ts,Adp E.P k t=true) (hl:laidOutB E.P=true) (hread:∀ t∈ts,E.P.readableRec t=true/\t<E.P.types.size)
  (hvs:s.vars=[]) (hfn:∀ ds:List (DataW H),ds.length=ts.length->(s.fn H ds).results=[.lit (.bool true)]/\(s.fn H ds).args=ds/\(s.fn H ds).vars=[])
  (hval:∀ (j:Nat) t v,fd.params[j]? = some t->args[j]? = some v->Value.okWide E.P W .any base t v)
  (hW:DataW.Whole enc E.P fd.params.toList s.vars false W args.toList ds gs before)
  (hgd:Good E (fun g=>W.heap[g]?)) (contract:∀ xs,Aja E.P k ts xs->Ret E f xs (.lit (.bool true)) []) :
  Calls E.P f args W fun e W'=>∃ v,e=.returned v/\s.post enc E.P fd false true false false W args v W':=by
 have hlt:∀ p∈before,p.block<W.heap.size:=fun p hp=>hW.lt p hp;have hW':=hW;obtain ⟨p,q,hA,hV,rfl,hfz,hnd⟩:=hW;rw [hvs] at hV;have hgs:gs=[]/\q=[]:=by cases gs<;>simp [DataW.TrodVars] at hV;exact ⟨rfl,hV⟩
 obtain ⟨rfl,rfl⟩:=hgs;simp only [List.append_nil] at *;rw [hts] at hA hval;simp only [List.toList_toArray] at hA;have hcall:=Azh hE hf hn hbd hmode hp hA (fun j t v h1 h2=>hval j t v (by simpa using h1) h2) hgd contract;have hlen:ds.length=ts.length:=by
  have:∀ (ts:List TypeId) (vs:List Value) (ds:List (DataW H)) (p:List MemPlace),DataW.TrodAll enc E.P W 0 (fun _=>true) true ts vs ds p->ds.length=ts.length:=by
   intro ts
   induction ts with
   | nil=>intro vs ds p h;obtain ⟨rfl,rfl,rfl⟩:=trodAll_nil h;rfl
   | cons t ts ih=>
    intro vs ds p h;obtain ⟨v,vs',d,ds',p,q,rfl,rfl,rfl,h1,h2⟩:=trodAll_cons h;simp [ih _ _ _ h2]
  exact this _ _ _ _ hA
 obtain ⟨e1,e2,e3⟩:=hfn ds hlen;refine hcall.mono fun e W' ⟨he,hb⟩=>⟨_,he,ds,[],p,[],p,[],hW',?_,?_,?_,World.keptBut_mono (fun x hx=>⟨hx,.inr (.inl hx)⟩) (hb.frame (·∈p)),fun h=>by cases h⟩
 ·rw [List.append_nil,e1,hrt];exact trodAll_cons_mk (shut_bool htb _) rfl
 ·rw [List.append_nil,e2,hts];exact At7 hl hb ts args.toList ds p hread hA hlt (fun x hx=>by simpa using hlt x hx)
 ·rw [List.append_nil,e3,hvs];exact rfl
end Go.Own
namespace Go.Own
open D Go.ChangeShapes Go.RowKit Go.WideShapes
structure Bulk (H:Type) where
 B:DataW H->Nat
 one:∀ d,1<=B d
 str:∀ bytes,bytes.length+1<=B (.lit (.string bytes))
 slice:∀ es sp,(es.map B).sum+1<=B (.slice es sp)
 agg:∀ ps,(ps.map B).sum+1<=B (.agg ps)
end Go.Own
