/- What the interpreter asks of this program, proved. No conditions. -/
import Derived.Test.YtbemcminbfhakaaGreatDoorBase3
import Derived.Test.YtbemcminbfhakaaGreatDoorBase5
import Derived.Test.YtbemcminbfhakaaGreatDoorOwn29
import Derived.Test.YtbemcminbfhakaaGreatDoorBase4
import Derived.Test.YtbemcminbfhakaaGreatDoorTopArmstrongLaw5
import Derived.Test.YtbemcminbfhakaaGreatDoorOwn19
import Derived.Test.YtbemcminbfhakaaGreatDoorOwn26
import Derived.Test.YtbemcminbfhakaaGreatDoorOwn31
set_option linter.all false

namespace Go.Own
open Go.Proofs
set_option maxRecDepth 100000
theorem mixed:Tryz.prog.follows .mixedOrders=true:=by kernel_rfl
theorem primsOK:PrimsOK env:=by
 intro f p ds r outs hp h
 have hp:primT f=some p:=hp
 unfold primT at hp
 split at hp
 ·cases hp
  exact fnok_write (E:=env) rfl (by decide) (enters_of Tryz.func69 (by kernel_rfl) rfl) Bld.writeOK h
 ·cases hp
  exact fnok_string (E:=env) rfl (enters_of Tryz.func70 (by kernel_rfl) rfl) Bld.stringOK h
 ·cases hp
  obtain ⟨z,hz⟩:=Clo90.ok
  exact fnok_clone (E:=env) (by decide) (enters_of Tryz.func90 (by kernel_rfl) rfl) hz h
 ·cases hp
  exact fnok_zeros (E:=env) (g:=0) (by decide) (enters_of Tryz.func98 (by kernel_rfl) rfl) Zer.zero Zer.some_ (fun M h=>h) h
 ·cases hp
  obtain ⟨z,hz⟩:=Clo103.ok
  exact fnok_clone (E:=env) (by decide) (enters_of Tryz.func103 (by kernel_rfl) rfl) hz h
 ·cases hp
theorem envVars:∀ f,Tryz.prog.funcs.size≤f→varsT f=[]:=by
 have hs:Tryz.prog.funcs.size=191:=by kernel_rfl
 have hu:varsTree.under 191=true:=by kernel_rfl
 intro f hf
 rw [hs] at hf
 unfold varsT
 cases h:varsTree.find f with
 | none=>rfl
 | some v=>have:=KT.find_under hu h;omega
theorem envChecked:envB env=true:=by kernel_rfl
theorem envOK:EnvOK env:=envOK_of mixed primsOK envChecked envVars
end Go.Own
