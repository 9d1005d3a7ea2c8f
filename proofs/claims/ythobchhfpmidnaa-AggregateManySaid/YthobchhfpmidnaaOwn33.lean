/- An interpreter of function bodies without memory, proved sound for the model. No conditions. -/
import Derived.Test.YthobchhfpmidnaaOwn30
import Derived.Test.YthobchhfpmidnaaOwn18
set_option linter.all false
namespace Go.Own
open D
def Dec {α:Type} (R:List D→Prop) (ok:α→Prop) (e:Enc α):Prop:=∀ ds,R ds→∃ x,ok x∧ds=e x
def okI (q:IntKind) (n:Int):Prop:=q.min≤n∧n≤q.max
section
variable {P:Program} {k t e n:Nat} {α:Type} {ok:α→Prop} {ee:Enc α}
theorem dec_int {q:IntKind} (h:P.underlying t=some (.int q)):Dec (Ty P (k+1) t) (okI q) (eI q):=fun ds hd=>by
 simp only [Ty,h] at hd
 obtain ⟨n,h1,rfl⟩:=hd
 refine ⟨n,?_,rfl⟩
 simpa [Lit.wf,okI] using h1
theorem tyA_one {d:D} (h:isAggT P t=false) (hd:TyA P k t d):Ty P k t [d]:=by
 unfold isAggT at h
 unfold TyA at hd
 split at h
 ·cases h
 ·cases h
 ·rename_i h1 h2
  split at hd
  ·rename_i hu;exact absurd hu (h1 _)
  ·rename_i hu;exact absurd hu (h2 _ _)
  ·exact hd
end
end Go.Own
