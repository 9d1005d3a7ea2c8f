/- What the interpreter asks of this program, proved. No conditions. -/
import Derived.Test.YteenpfaegjdkoaaGreatBase3
import Derived.Test.YteenpfaegjdkoaaGreatBase4
import Derived.Test.YteenpfaegjdkoaaGreatOwn29
import Derived.Test.YteenpfaegjdkoaaGreatOwn32
import Derived.Test.YteenpfaegjdkoaaGreatAggregateExtremesLaw5
import Derived.Test.YteenpfaegjdkoaaGreatOwn19
import Derived.Test.YteenpfaegjdkoaaGreatOwn26
import Derived.Test.YteenpfaegjdkoaaGreatOwn31
set_option linter.all false

namespace Go.Own
open Go.Proofs
set_option maxRecDepth 100000
theorem mixed:Tryz.prog.follows .mixedOrders=true:=by kernel_rfl
theorem primsOK:PrimsOK env:=by
 intro f p ds r outs hp h
 have hp:primT f=some p:=hp
 unfold primT at hp
 split at hp
 ·cases hp
  obtain ⟨z,hz⟩:=Clo7.ok
  exact fnok_clone (E:=env) (by decide) (enters_of Tryz.func7 (by kernel_rfl) rfl) hz h
 ·cases hp
  exact fnok_write (E:=env) rfl (by decide) (enters_of Tryz.func76 (by kernel_rfl) rfl) Bld.writeOK h
 ·cases hp
  exact fnok_string (E:=env) rfl (enters_of Tryz.func77 (by kernel_rfl) rfl) Bld.stringOK h
 ·cases hp
  obtain ⟨z,hz⟩:=Clo82.ok
  exact fnok_clone (E:=env) (by decide) (enters_of Tryz.func82 (by kernel_rfl) rfl) hz h
 ·cases hp
  obtain ⟨z,hz⟩:=Clo99.ok
  exact fnok_clone (E:=env) (by decide) (enters_of Tryz.func99 (by kernel_rfl) rfl) hz h
 ·cases hp
  exact fnok_cmp (E:=env) (by decide) (by decide) (fun a b w=>by show Sem.run Tryz.prog _ w=_;rw [run_callFunc_extern Tryz.func108 (by kernel_rfl) (by kernel_rfl) (by kernel_rfl) (e:=Extern.BytealgCompare.compare) (by kernel_rfl),Lib.run_compareString];rfl) h
 ·cases hp
theorem envVars:∀ f,Tryz.prog.funcs.size≤f→varsT f=[]:=by
 have hs:Tryz.prog.funcs.size=127:=by kernel_rfl
 have hu:varsTree.under 127=true:=by kernel_rfl
 intro f hf
 rw [hs] at hf
 unfold varsT
 cases h:varsTree.find f with
 | none=>rfl
 | some v=>have:=KT.find_under hu h;omega
theorem envChecked:envB env=true:=by kernel_rfl
theorem envOK:EnvOK env:=envOK_of mixed primsOK envChecked envVars
end Go.Own
