/- An interpreter of function bodies without memory, proved sound for the model. No conditions. -/
import Derived.Test.YtmiedlcblpiemaaGreatDoorOwn4
set_option linter.all false
namespace Go.Own
open D
section
variable {E:Env} {f:Nat} {V:List Nat} {call:Caller} {F F1 F2:Fr} {o:Oper}
theorem opsC_cons {ops:Array Oper} {l:List Nat} {i:Nat} (hi:ops[i]? = some o) (hw:wantedD ops F o=some true) (h:opC E f V call F o=some F1):opsC E f V call ops (i::l) F=opsC E f V call ops l F1:=by
 simp only [opsC,hi,hw,h]
theorem opsC_app {ops:Array Oper}:∀ {l m:List Nat} {F F1:Fr},opsC E f V call ops l F=some F1→opsC E f V call ops (l++m) F=opsC E f V call ops m F1
 | [],m,F,F1,h=>by simp only [opsC,Option.some.injEq] at h;subst h;rfl
 | i::l,m,F,F1,h=>by
  simp only [List.cons_append,opsC] at h ⊢
  split at h
  ·exact opsC_app h
  ·split at h
   ·split at h
    ·exact opsC_app h
    ·cases h
   ·exact opsC_app h
   ·cases h
end
end Go.Own
