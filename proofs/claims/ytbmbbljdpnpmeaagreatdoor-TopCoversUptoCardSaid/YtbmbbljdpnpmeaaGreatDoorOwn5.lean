/- No conditions. -/
import Derived.Test.YtbmbbljdpnpmeaaGreatDoorOwn4
set_option linter.all false
namespace Go.Own
open D
section
variable {E:Env} {f:Nat} {V:List Nat} {call:Abb} {F F1 F2:Fr} {o:Oper}
theorem Be0 {ops:Array Oper} {l:List Nat} {i:Nat} (hi:ops[i]? = some o) (hw:wantedD ops F o=some true) (h:opC E f V call F o=some F1):opsC E f V call ops (i::l) F=opsC E f V call ops l F1:=by
 simp only [opsC,hi,hw,h]
theorem Amx {ops:Array Oper}:∀ {l m:List Nat} {F F1:Fr},opsC E f V call ops l F=some F1->opsC E f V call ops (l++m) F=opsC E f V call ops m F1
 | [],m,F,F1,h=>by simp only [opsC,zJ] at h;subst h;rfl
 | i::l,m,F,F1,h=>by
  simp only [List.cons_append,opsC] at h ⊢
  split at h
  ·exact Amx h
  ·split at h
   ·split at h
    ·exact Amx h
    ·cases h
   ·exact Amx h
   ·cases h
end
end Go.Own
