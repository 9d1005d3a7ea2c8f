/- An interpreter of function bodies, sound. No conditions. -/
import Derived.Test.YtcbhcnkfefbddaaGreatDoorOwn4
set_option linter.all false
namespace Go.aS
open D
section
variable{E:Env}{f:Nat}{V:List Nat}{call:fL}{F aX bN:Fr}{o:Oper}
theorem SG{ops:Array Oper}{l:List Nat}{i:Nat}(hi:ops[i]?=some o)(hw:fV ops F o=some true)(h:cV E f V call F o=some aX):fQ E f V call ops (i::l) F=fQ E f V call ops l aX:=by
 simp only[fQ,hi,hw,h]
theorem Gz{ops:Array Oper}:∀{l m:List Nat}{F aX:Fr},fQ E f V call ops l F=some aX->fQ E f V call ops (l++m) F=fQ E f V call ops m aX
 |[],m,F,aX,h=>by simp only[fQ,aE]at h;subst h;rfl
 |i::l,m,F,aX,h=>by
  simp only[List.cons_append,fQ]at h⊢
  split at h
  .exact Gz h
  .split at h
   .split at h
    .exact Gz h
    .cases h
   .exact Gz h
   .cases h
theorem acg{t e k i:Nat}{q:IntKind}{x ix:Operand}{es:List (List D)}{c:List D}(an:o.op=.indexAddr t x ix)(U:aZ E F x=some (.sl es))(n8:aZ E F ix=some (.lit (.int q (i:Int))))(al:eD E.P t=some e)(ae:aY E.P e=k)
  (ad:es[i]?=some c) (aj:c.length=k):cV E f V call F o=some (fin F o.dst (.ref c)):=by
 unfold cV;have gn:(0:Int)<=(i:Int):=Int.natCast_nonneg i;simp only[an,U,n8,nm,asNat,asInt,al,ae,if_pos gn,Int.toNat_natCast,ad,aj,if_true,Option.map_some]
end
end Go.aS
