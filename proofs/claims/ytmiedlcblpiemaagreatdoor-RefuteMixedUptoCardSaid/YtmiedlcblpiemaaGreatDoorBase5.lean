/- What the interpreter asks of this program, proved. No conditions. -/
import Derived.Test.YtmiedlcblpiemaaGreatDoorBase2
import Derived.Test.YtmiedlcblpiemaaGreatDoorRefuteMixedLaw2
import Derived.Test.YtmiedlcblpiemaaGreatDoorBase4
import Derived.Test.YtmiedlcblpiemaaGreatDoorBase3
import Derived.Test.YtmiedlcblpiemaaGreatDoorRefuteMixedLaw7
import Derived.Test.YtmiedlcblpiemaaGreatDoorOwn20
import Derived.Test.YtmiedlcblpiemaaGreatDoorOwn30
set_option linter.all false

namespace Go.Own
open Go.Proofs
set_option maxRecDepth 100000
theorem mixed:Tryz.prog.follows .mixedOrders=true:=by kernel_rfl
theorem primsOK:PrimsOK env:=by
 intro f p ds r outs hp h
 have hp:primT f=some p:=hp
 unfold primT at hp
 split at hp
 ·cases hp
  obtain ⟨z,hz⟩:=Clo73.ok
  exact fnok_clone (E:=env) (by decide) (enters_of Tryz.func73 (by kernel_rfl) rfl) hz h
 ·cases hp
  cases h
 ·cases hp
  exact fnok_zeros (E:=env) (g:=0) (by decide) (enters_of Tryz.func95 (by kernel_rfl) rfl) Zer.zero Zer.some_ (fun M h=>h) h
 ·cases hp
  exact fnok_write (E:=env) rfl (by decide) (enters_of Tryz.func117 (by kernel_rfl) rfl) Bld.writeOK h
 ·cases hp
  exact fnok_string (E:=env) rfl (enters_of Tryz.func118 (by kernel_rfl) rfl) Bld.stringOK h
 ·cases hp
  obtain ⟨z,hz⟩:=Clo120.ok
  exact fnok_clone (E:=env) (by decide) (enters_of Tryz.func120 (by kernel_rfl) rfl) hz h
 ·cases hp
  obtain ⟨z,hz⟩:=Clo127.ok
  exact fnok_clone (E:=env) (by decide) (enters_of Tryz.func127 (by kernel_rfl) rfl) hz h
 ·cases hp
  obtain ⟨z,hz⟩:=Clo146.ok
  exact fnok_clone (E:=env) (by decide) (enters_of Tryz.func146 (by kernel_rfl) rfl) hz h
 ·cases hp
theorem handsOK:HandsOK env:=by
 intro call hc f q ds r outs hq h
 have hq:handT f=some q:=hq
 unfold handT at hq
 split at hq
 ·cases hq;exact Blk.fnok hc h
 ·cases hq
theorem envVars:∀ f,Tryz.prog.funcs.size≤f→varsT f=[]:=by
 have hs:Tryz.prog.funcs.size=189:=by kernel_rfl
 have hu:varsTree.under 189=true:=by kernel_rfl
 intro f hf
 rw [hs] at hf
 unfold varsT
 cases h:varsTree.find f with
 | none=>rfl
 | some v=>have:=KT.find_under hu h;omega
theorem envChecked:envB env=true:=by kernel_rfl
theorem envOK:EnvOK env:=envOK_of mixed primsOK handsOK envChecked envVars
end Go.Own
