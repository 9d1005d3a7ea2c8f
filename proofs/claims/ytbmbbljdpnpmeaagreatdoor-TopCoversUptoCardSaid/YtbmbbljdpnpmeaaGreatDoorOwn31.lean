/- No conditions. -/
import Derived.Carry
import Derived.OpenShut
import Derived.Test.YtbmbbljdpnpmeaaGreatDoorOwn29
import Derived.Test.YtbmbbljdpnpmeaaGreatDoorOwn17
set_option linter.all false
namespace Go.Own
open D
def Dec {α:Type} (R:List D->Prop) (ok:α->Prop) (e:Enc α):Prop:=∀ ds,R ds->∃ x,ok x/\ds=e x
def okI (q:IntKind) (n:Int):Prop:=q.min<=n/\n<=q.max
def okL {α:Type} (ok:α->Prop) (l:List α):Prop:=l.length<=maxLen/\∀ x∈l,ok x
section
variable {P:Program} {k t e n:Nat} {α:Type} {ok:α->Prop} {ee:Enc α}
theorem Atj {q:IntKind} (h:P.underlying t=some (.int q)):Dec (Ty P (k+1) t) (okI q) (eI q):=fun ds hd=>by
 simp only [Ty,h] at hd;obtain ⟨n,h1,rfl⟩:=hd;refine ⟨n,?_,rfl⟩;simpa [Lit.wf,okI] using h1
theorem Ax1 {R:List D->Prop} (h:Dec R ok ee):∀ {es:List (List D)},(∀ x∈es,R x)->∃ l:List α,(∀ x∈l,ok x)/\es=l.map ee
 | [],_=>⟨[],by simp,rfl⟩
 | c::es,hr=>by
  obtain ⟨x,h1,rfl⟩:=h c (hr c (by simp));obtain ⟨l,h2,rfl⟩:=Ax1 h (es:=es) (fun y hy=>hr y (by simp [hy]));exact ⟨x::l,by simpa using ⟨h1,h2⟩,rfl⟩
theorem Bd4 (h:P.underlying t=some (.slice e)) (hd:Dec (Ty P k e) ok ee):Dec (Ty P (k+1) t) (okL ok) (eSl ee):=fun ds hs=>by
 simp only [Ty,h] at hs;obtain ⟨es,h1,rfl,h2⟩:=hs;obtain ⟨l,h3,rfl⟩:=Ax1 hd h2;exact ⟨l,⟨by simpa using h1,h3⟩,rfl⟩
def TyTs (R:TypeId->List D->Prop):List TypeId->List D->Prop
 | [],ds=>ds=[]
 | t::ts,ds=>∃ a b,ds=a++b/\R t a/\TyTs R ts b
theorem Bab {R:TypeId->List D->Prop}:∀ {fs:List Field} {ds:List D},TyFs R fs ds->TyTs R (fs.map (·.type)) ds
 | [],_,h=>h
 | f::fs,ds,h=>by
  obtain ⟨a,b,h1,h2,h3⟩:=h;exact ⟨a,b,h1,h2,Bab h3⟩
def An8 (P:Program) (t:Nat):Option (List TypeId):=match P.underlying t with
 | some (.struct fs)=>some (fs.toList.map (·.type))
 | _=>none
theorem Avs {ts:List TypeId} {ds:List D} (h:An8 P t=some ts) (hd:Ty P (k+1) t ds):TyTs (Ty P k) ts ds:=by
 unfold An8 at h
 split at h
 ·rename_i fs hu;simp only [zJ] at h;subst h;simp only [Ty,hu] at hd;exact Bab hd
 ·cases h
theorem Bk2 {d:D} (h:isAggT P t=true) (hd:TyA P k t d):∃ ds,d=.agg ds/\Ty P k t ds:=by
 unfold isAggT at h;unfold TyA at hd
 split at h
 ·rename_i hu;rw [hu] at hd;exact hd
 ·rename_i hu;rw [hu] at hd;exact hd
 ·cases h
end
end Go.Own

namespace Go.Own
open D Go.ChangeShapes Go.RowKit Go.WideShapes
theorem Avo {H:Type} {enc:TypeId×Value->H} {P:Program} (hl:laidOutB P=true) {W W':World} (hb:Below W.heap.size W W') {sp:Nat->Bool} :
  ∀ (ts:List TypeId) (vs:List Value) (ds:List (DataW H)) (ps:List MemPlace),(∀ t∈ts,P.readableRec t=true/\t<P.types.size)->DataW.TrodAll enc P W 0 (fun _=>true) true ts vs ds ps ->
   (∀ p∈ps,p.block<W.heap.size)->(∀ p∈ps,sp p.block=true)->DataW.TrodAll enc P W' 0 sp true ts vs ds ps
 | [],vs,ds,ps,_,h,_,_=>by
  obtain ⟨rfl,rfl,rfl⟩:=trodAll_nil h;exact rfl
 | t::ts,vs,ds,ps,ht,h,hlt,hsp=>by
  obtain ⟨v,vs',d,ds',p,q,rfl,rfl,rfl,h1,h2⟩:=trodAll_cons h;exact trodAll_cons_mk (WideElems.Trod_stays hl (ht t (by simp)).1 (ht t (by simp)).2 h1 (fun x hx=>hb.same (hlt x (by simp [hx]))) (fun x hx=>hsp x (by simp [hx])))
   (Avo hl hb ts vs' ds' q (fun t h=>ht t (by simp [h])) h2 (fun p hp=>hlt p (by simp [hp])) (fun p hp=>hsp p (by simp [hp])))
end Go.Own
