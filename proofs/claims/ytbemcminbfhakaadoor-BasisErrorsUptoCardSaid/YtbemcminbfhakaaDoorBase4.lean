/- What the interpreter asks of this program, proved. No conditions. -/
import Derived.Test.YtbemcminbfhakaaDoorBase2
import Derived.Test.YtbemcminbfhakaaDoorBase3
import Derived.Test.YtbemcminbfhakaaDoorBasisErrorsLaw5
import Derived.Test.YtbemcminbfhakaaDoorOwn19
import Derived.Test.YtbemcminbfhakaaDoorOwn26
import Derived.Test.YtbemcminbfhakaaDoorOwn31
set_option linter.all false

namespace Go.Own
open Go.Proofs
set_option maxRecDepth 100000
theorem mixed:Tryd.prog.follows .mixedOrders=true:=by kernel_rfl
theorem primsOK:PrimsOK env:=by
 intro f p ds r outs hp h
 have hp:primT f=some p:=hp
 unfold primT at hp
 split at hp
 ·cases hp
  obtain ⟨z,hz⟩:=Clo60.ok
  exact fnok_clone (E:=env) (by decide) (enters_of Tryd.func60 (by kernel_rfl) rfl) hz h
 ·cases hp
  obtain ⟨z,hz⟩:=Clo73.ok
  exact fnok_clone (E:=env) (by decide) (enters_of Tryd.func73 (by kernel_rfl) rfl) hz h
 ·cases hp
  exact fnok_zeros (E:=env) (g:=0) (by decide) (enters_of Tryd.func77 (by kernel_rfl) rfl) Zer.zero Zer.some_ (fun M h=>h) h
 ·cases hp
theorem envVars:∀ f,Tryd.prog.funcs.size≤f→varsT f=[]:=by
 have hs:Tryd.prog.funcs.size=130:=by kernel_rfl
 have hu:varsTree.under 130=true:=by kernel_rfl
 intro f hf
 rw [hs] at hf
 unfold varsT
 cases h:varsTree.find f with
 | none=>rfl
 | some v=>have:=KT.find_under hu h;omega
theorem envChecked:envB env=true:=by kernel_rfl
theorem envOK:EnvOK env:=envOK_of mixed primsOK envChecked envVars
end Go.Own
