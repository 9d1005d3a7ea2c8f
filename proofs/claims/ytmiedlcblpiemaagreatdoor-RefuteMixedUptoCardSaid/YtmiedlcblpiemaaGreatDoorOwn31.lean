/- An interpreter of function bodies without memory, proved sound for the model. No conditions. -/
import Derived.Carry
import Derived.OpenShut
import Derived.Test.YtmiedlcblpiemaaGreatDoorOwn29
import Derived.Test.YtmiedlcblpiemaaGreatDoorOwn17
set_option linter.all false
namespace Go.Own
open D
def Dec {α:Type} (R:List D→Prop) (ok:α→Prop) (e:Enc α):Prop:=∀ ds,R ds→∃ x,ok x∧ds=e x
def okI (q:IntKind) (n:Int):Prop:=q.min≤n∧n≤q.max
def okL {α:Type} (ok:α→Prop) (l:List α):Prop:=l.length≤maxLen∧∀ x∈l,ok x
section
variable {P:Program} {k t e n:Nat} {α:Type} {ok:α→Prop} {ee:Enc α}
theorem dec_int {q:IntKind} (h:P.underlying t=some (.int q)):Dec (Ty P (k+1) t) (okI q) (eI q):=fun ds hd=>by
 simp only [Ty,h] at hd
 obtain ⟨n,h1,rfl⟩:=hd
 refine ⟨n,?_,rfl⟩
 simpa [Lit.wf,okI] using h1
theorem dec_list {R:List D→Prop} (h:Dec R ok ee):∀ {es:List (List D)},(∀ x∈es,R x)→∃ l:List α,(∀ x∈l,ok x)∧es=l.map ee
 | [],_=>⟨[],by simp,rfl⟩
 | c::es,hr=>by
  obtain ⟨x,h1,rfl⟩:=h c (hr c (by simp))
  obtain ⟨l,h2,rfl⟩:=dec_list h (es:=es) (fun y hy=>hr y (by simp [hy]))
  exact ⟨x::l,by simpa using ⟨h1,h2⟩,rfl⟩
theorem dec_slice (h:P.underlying t=some (.slice e)) (hd:Dec (Ty P k e) ok ee):Dec (Ty P (k+1) t) (okL ok) (eSl ee):=fun ds hs=>by
 simp only [Ty,h] at hs
 obtain ⟨es,h1,rfl,h2⟩:=hs
 obtain ⟨l,h3,rfl⟩:=dec_list hd h2
 exact ⟨l,⟨by simpa using h1,h3⟩,rfl⟩
def TyTs (R:TypeId→List D→Prop):List TypeId→List D→Prop
 | [],ds=>ds=[]
 | t::ts,ds=>∃ a b,ds=a++b∧R t a∧TyTs R ts b
theorem tyTs_of {R:TypeId→List D→Prop}:∀ {fs:List Field} {ds:List D},TyFs R fs ds→TyTs R (fs.map (·.type)) ds
 | [],_,h=>h
 | f::fs,ds,h=>by
  obtain ⟨a,b,h1,h2,h3⟩:=h
  exact ⟨a,b,h1,h2,tyTs_of h3⟩
def structTs (P:Program) (t:Nat):Option (List TypeId):=match P.underlying t with
 | some (.struct fs)=>some (fs.toList.map (·.type))
 | _=>none
theorem ty_struct {ts:List TypeId} {ds:List D} (h:structTs P t=some ts) (hd:Ty P (k+1) t ds):TyTs (Ty P k) ts ds:=by
 unfold structTs at h
 split at h
 ·rename_i fs hu
  simp only [Option.some.injEq] at h
  subst h
  simp only [Ty,hu] at hd
  exact tyTs_of hd
 ·cases h
theorem ty_array {ds:List D} (h:arrayT P t=some (n,e)) (hd:Ty P (k+1) t ds):∃ ps:List (List D),ds=ps.flatten∧ps.length=n∧∀ x∈ps,Ty P k e x:=by
 unfold arrayT at h
 split at h
 ·rename_i m e' hu
  simp only [Option.some.injEq,Prod.mk.injEq] at h
  obtain ⟨rfl,rfl⟩:=h
  simp only [Ty,hu] at hd
  exact hd
 ·cases h
theorem tyA_agg {d:D} (h:isAggT P t=true) (hd:TyA P k t d):∃ ds,d=.agg ds∧Ty P k t ds:=by
 unfold isAggT at h
 unfold TyA at hd
 split at h
 ·rename_i hu;rw [hu] at hd;exact hd
 ·rename_i hu;rw [hu] at hd;exact hd
 ·cases h
end
end Go.Own

namespace Go.Own
open D Go.ChangeShapes Go.RowKit Go.WideShapes
theorem stays_all {H:Type} {enc:TypeId×Value→H} {P:Program} (hl:laidOutB P=true) {W W':World} (hb:Below W.heap.size W W') {sp:Nat→Bool} :
  ∀ (ts:List TypeId) (vs:List Value) (ds:List (DataW H)) (ps:List MemPlace),(∀ t∈ts,P.readableRec t=true∧t<P.types.size)→DataW.TrodAll enc P W 0 (fun _=>true) true ts vs ds ps →
   (∀ p∈ps,p.block<W.heap.size)→(∀ p∈ps,sp p.block=true)→DataW.TrodAll enc P W' 0 sp true ts vs ds ps
 | [],vs,ds,ps,_,h,_,_=>by
  obtain ⟨rfl,rfl,rfl⟩:=trodAll_nil h
  exact rfl
 | t::ts,vs,ds,ps,ht,h,hlt,hsp=>by
  obtain ⟨v,vs',d,ds',p,q,rfl,rfl,rfl,h1,h2⟩:=trodAll_cons h
  exact trodAll_cons_mk (WideElems.Trod_stays hl (ht t (by simp)).1 (ht t (by simp)).2 h1 (fun x hx=>hb.same (hlt x (by simp [hx]))) (fun x hx=>hsp x (by simp [hx])))
   (stays_all hl hb ts vs' ds' q (fun t h=>ht t (by simp [h])) h2 (fun p hp=>hlt p (by simp [hp])) (fun p hp=>hsp p (by simp [hp])))
end Go.Own
