/- An interpreter of function bodies, sound. No conditions. -/
import Derived.Test.YtockohmmmlhhfabGreatDoorOwn4
set_option linter.all false
namespace Go.Own
open D
section
variable {E:Env} {f:Nat} {V:List Nat} {call:Aam} {F F1 F2:Fr} {o:Oper}
theorem Azp {ops:Array Oper} {l:List Nat} {i:Nat} (hi:ops[i]? = some o) (hw:wantedD ops F o=some true) (h:opC E f V call F o=some F1):opsC E f V call ops (i::l) F=opsC E f V call ops l F1:=by
 simp only [opsC,hi,hw,h]
theorem Alj {ops:Array Oper}:∀ {l m:List Nat} {F F1:Fr},opsC E f V call ops l F=some F1->opsC E f V call ops (l++m) F=opsC E f V call ops m F1
 | [],m,F,F1,h=>by simp only [opsC,zJ] at h;subst h;rfl
 | i::l,m,F,F1,h=>by
  simp only [List.cons_append,opsC] at h ⊢
  split at h
  ·exact Alj h
  ·split at h
   ·split at h
    ·exact Alj h
    ·cases h
   ·exact Alj h
   ·cases h
theorem Bav {t e k i:Nat} {q:IntKind} {x ix:Operand} {es:List (List D)} {c:List D} (ho:o.op=.indexAddr t x ix) (hx:opd E F x=some (.sl es)) (hix:opd E F ix=some (.lit (.int q (i:Int)))) (ht:sliceT E.P t=some e) (hs:sizeT E.P e=k)
  (hc:es[i]? = some c) (hk:c.length=k):opC E f V call F o=some (fin F o.dst (.ref c)):=by
 unfold opC;have e0:(0:Int)<=(i:Int):=Int.natCast_nonneg i;simp only [ho,hx,hix,indexAddrD,asNat,asInt,ht,hs,if_pos e0,Int.toNat_natCast,hc,hk,if_true,Option.map_some]
end
end Go.Own
