/- An interpreter of function bodies without memory, proved sound for the model. No conditions. -/
import Derived.Carry
import Derived.OpenShut
import Derived.Test.YtbemcminbfhakaaDoorOwn30
set_option linter.all false

namespace Go.Own
open D Go.ChangeShapes Go.RowKit Go.WideShapes
theorem stays_all {H:Type} {enc:TypeId×Value→H} {P:Program} (hl:laidOutB P=true) {W W':World} (hb:Below W.heap.size W W') {sp:Nat→Bool} :
  ∀ (ts:List TypeId) (vs:List Value) (ds:List (DataW H)) (ps:List MemPlace),(∀ t∈ts,P.readableRec t=true∧t<P.types.size)→DataW.TrodAll enc P W 0 (fun _=>true) true ts vs ds ps →
   (∀ p∈ps,p.block<W.heap.size)→(∀ p∈ps,sp p.block=true)→DataW.TrodAll enc P W' 0 sp true ts vs ds ps
 | [],vs,ds,ps,_,h,_,_=>by
  obtain ⟨rfl,rfl,rfl⟩:=trodAll_nil h
  exact rfl
 | t::ts,vs,ds,ps,ht,h,hlt,hsp=>by
  obtain ⟨v,vs',d,ds',p,q,rfl,rfl,rfl,h1,h2⟩:=trodAll_cons h
  exact trodAll_cons_mk (WideElems.Trod_stays hl (ht t (by simp)).1 (ht t (by simp)).2 h1 (fun x hx=>hb.same (hlt x (by simp [hx]))) (fun x hx=>hsp x (by simp [hx])))
   (stays_all hl hb ts vs' ds' q (fun t h=>ht t (by simp [h])) h2 (fun p hp=>hlt p (by simp [hp])) (fun p hp=>hsp p (by simp [hp])))
end Go.Own
