/- An interpreter of function bodies without memory, proved sound for the model. No conditions. -/
import Derived.Test.YtbemcminbfhakaaDoorOwn15
import Derived.Test.YtbemcminbfhakaaDoorOwn8
set_option linter.all false
namespace Go.Own
open D
section
variable {E:Env} {f:Nat} {V:List Nat} {F:Fr} {Q:Ex→Fr→Prop} {body:Code} {p:List Nat} {j:Nat} {s:St} {d d':D} {cs cs':List D}
theorem snaps_nil:snaps1 F []=some []:=rfl
theorem snap1_of (h:snapD F d=some d') (hn:∀ cs,d≠.agg cs) (hf:∀ g cs,d≠.fn g cs):snap1 F d=some d':=by
 cases d with
 | agg cs=>exact absurd rfl (hn cs)
 | fn g cs=>exact absurd rfl (hf g cs)
 | _=>exact h
def oneC:D→Bool
 | .agg _=>false
 | .fn _ _=>false
 | _=>true
theorem snaps_cons (h:snapD F d=some d') (hs:snaps1 F cs=some cs') (ho:oneC d=true:=by rfl):snaps1 F (d::cs)=some (d'::cs'):=by
 have:snap1 F d=some d':=snap1_of h (fun cs hc=>by subst hc;cases ho) (fun g cs hc=>by subst hc;cases ho)
 simp only [snaps1,this,hs]
theorem snap_agg (hs:snaps1 F cs=some cs'):snapD F (.agg cs)=some (.agg cs'):=by simp only [snapD,hs,Option.map_some]
theorem flts_nil:flatCs []=true:=rfl
theorem flts_cons (h:d.flat=true) (hs:flatCs cs=true):flatCs (d::cs)=true:=by simp only [flatCs,h,hs,Bool.and_self]
theorem flat_agg (hs:flatCs cs=true):(D.agg cs).flat=true:=by simp only [D.flat,hs]
theorem flat_tup (hs:flatCs cs=true):(D.tup cs).flat=true:=by simp only [D.flat,hs]
end
end Go.Own
namespace Go.Own
open D
theorem fcs_nil:freezeCs []=some []:=rfl
theorem fcs_cons {c c':D} {cs cs':List D} (h:c.freeze=some c') (hs:freezeCs cs=some cs'):freezeCs (c::cs)=some (c'::cs'):=by simp only [freezeCs,h,hs]
end Go.Own
namespace Go.Own
open D
section
variable {α:Type} {e e':Enc α} {l:List α} {F:Fr} {s:Nat}
end
end Go.Own
namespace Go.Own
open D
section
variable {E:Env} {f:Nat} {V:List Nat} {F:Fr} {o:Oper} {call:Caller} {α:Type} {e:Enc α} {l m:List α} {t et k s n off len:Nat} {ps:Path} {x:Operand} {z:D}
end
end Go.Own
namespace Go.Own
open D
end Go.Own
namespace Go.Own
theorem ne_eq {E:Env} {F F':Fr} {y:Operand} {a:List (List D)} (h:newElems E F y=some (a,F')):newElems E F y=some (a,newF E F y):=by
 unfold newF;rw [h]
end Go.Own
namespace Go.Own
open D
end Go.Own
namespace Go.Own
open D
theorem freeze_agg {cs cs':List D} (h:freezeCs cs=some cs'):(D.agg cs).freeze=some (.agg cs'):=by simp only [D.freeze,h,Option.map_some]
theorem cold_tup {b:Bool} {cs cs':List D} (hb:b=true) (h:freezeCs cs=some cs'):coldD b (.tup cs)=some (.tup cs'):=by
 subst hb;simp only [coldD,if_true,h,Option.map_some]
end Go.Own
namespace Go.Own
open D
end Go.Own
