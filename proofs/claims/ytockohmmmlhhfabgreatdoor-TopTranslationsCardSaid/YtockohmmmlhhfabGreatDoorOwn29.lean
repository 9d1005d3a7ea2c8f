/- An interpreter of function bodies, sound. No conditions. -/
import Derived.Test.YtockohmmmlhhfabGreatDoorOwn23
import Derived.Test.YtockohmmmlhhfabGreatDoorOwn26
set_option linter.all false
namespace Go.Own
open D
abbrev Grp:=ByteArray×Nat×Nat×Nat
def gv (g:Grp):Value:=.agg ([Value.map (some g.2.1),.map (some g.2.2.1),.map (some g.2.2.2)]:List Value).toArray
def gKV (gs:List Grp):List (ByteArray×Value):=gs.map fun g=>(g.1,gv g)
def rs3 (g:Grp):List Nat:=[g.2.1,g.2.2.1,g.2.2.2]
def set1 (L:List Key3) (s:ByteArray):List ByteArray:=dd ((grpH L s).map fun y=>y.2.1)
def set2 (L:List Key3) (s:ByteArray):List ByteArray:=dd ((grpH L s).map fun y=>y.2.2)
def set3 (L:List Key3) (s:ByteArray):List ByteArray:=dd ((grpH L s).map fun y=>y.2.1++y.2.2)
def XG1 (L:List Key3) (g:Grp):List (Nat×Obj):=[(g.2.1,sMap (set1 L g.1)),(g.2.2.1,sMap (set2 L g.1)),(g.2.2.2,sMap (set3 L g.1))]
def XG (L:List Key3) (gs:List Grp):List (Nat×Obj):=gs.flatMap (XG1 L)
structure StH (rg:Nat) (L:List Key3) (gs:List Grp) (X:List (Nat×Obj)):Prop where
 hX:X=(rg,gMap (gKV gs))::XG L gs
 nd:(rg::gs.flatMap rs3).Nodup
 kn:(gs.map (·.1)).Nodup
 kL:∀ y∈L,y.1∈gs.map (·.1)
section
variable {P:Program} {o:Oper} {a:Act} {w:World}
end
section
variable {n:Nat} {R:Nat->Value} {M:Mem} {B:List Nat} {w0:World} {a:Act} {w:World} {F:Fr} {X:List (Nat×Obj)}
end
theorem WX.runV {E:Env} {n:Nat} {F F1:Fr} {X:List (Nat×Obj)} {Q:Ex->Fr->List (Nat×Obj)->Prop} {call:Nat->List D->Option (D×List D)} {ops:Array Oper} (hcall:Abq E call) (f:Nat) (V l rest:List Nat) {l0:List Nat} (hl:l0=l++rest) (hV:V.Nodup) (h:(opsC E f V call ops l F).map (norm V)=some F1) (k:WX E n ops rest F1 X Q):WX E n ops l0 F X Q:=by
 rw [Option.map_eq_some_iff] at h;obtain ⟨F2,h1,h2⟩:=h;exact WX.run hcall f V l rest hl h1 (WX.normed hV F1 h2 k)
end Go.Own
