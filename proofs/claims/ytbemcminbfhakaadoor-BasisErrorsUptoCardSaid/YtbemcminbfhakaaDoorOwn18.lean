/- An interpreter of function bodies without memory, proved sound for the model. No conditions. -/
import Derived.Test.YtbemcminbfhakaaDoorOwn15
import Derived.Test.YtbemcminbfhakaaDoorOwn8
set_option linter.all false
namespace Go.Own
open D
section
variable {E:Env} {f:Nat} {V:List Nat} {F:Fr} {Q:Ex→Fr→Prop} {body:Code} {p:List Nat} {j:Nat} {s:St} {d d':D} {cs cs':List D}
theorem flts_nil:flatCs []=true:=rfl
theorem flts_cons (h:d.flat=true) (hs:flatCs cs=true):flatCs (d::cs)=true:=by simp only [flatCs,h,hs,Bool.and_self]
theorem flat_tup (hs:flatCs cs=true):(D.tup cs).flat=true:=by simp only [D.flat,hs]
end
end Go.Own
namespace Go.Own
open D
theorem fcs_nil:freezeCs []=some []:=rfl
theorem fcs_cons {c c':D} {cs cs':List D} (h:c.freeze=some c') (hs:freezeCs cs=some cs'):freezeCs (c::cs)=some (c'::cs'):=by simp only [freezeCs,h,hs]
end Go.Own
namespace Go.Own
open D
section
variable {α:Type} {e e':Enc α} {l:List α} {F:Fr} {s:Nat}
theorem ite_both {α:Type} {c:Prop} [Decidable c] {a:α} {x:Option α} (h:x=some a):(if c then some a else x)=some a:=by split<;>simp_all
end
end Go.Own
namespace Go.Own
open D
section
variable {E:Env} {f:Nat} {V:List Nat} {F:Fr} {o:Oper} {call:Caller} {α:Type} {e:Enc α} {l m:List α} {t et k s n off len:Nat} {ps:Path} {x:Operand} {z:D}
end
end Go.Own
namespace Go.Own
open D
end Go.Own
namespace Go.Own
theorem ne_eq {E:Env} {F F':Fr} {y:Operand} {a:List (List D)} (h:newElems E F y=some (a,F')):newElems E F y=some (a,newF E F y):=by
 unfold newF;rw [h]
end Go.Own
namespace Go.Own
open D
end Go.Own
namespace Go.Own
open D
theorem cold_tup {b:Bool} {cs cs':List D} (hb:b=true) (h:freezeCs cs=some cs'):coldD b (.tup cs)=some (.tup cs'):=by
 subst hb;simp only [coldD,if_true,h,Option.map_some]
end Go.Own
namespace Go.Own
open D
end Go.Own
