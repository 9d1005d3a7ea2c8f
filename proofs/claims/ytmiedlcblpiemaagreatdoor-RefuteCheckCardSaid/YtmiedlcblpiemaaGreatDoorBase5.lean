/- What it asks of this program. No conditions. -/
import Derived.Test.YtmiedlcblpiemaaGreatDoorBase2
import Derived.Test.YtmiedlcblpiemaaGreatDoorRefuteCheckLaw4
import Derived.Test.YtmiedlcblpiemaaGreatDoorBase4
import Derived.Test.YtmiedlcblpiemaaGreatDoorBase3
import Derived.Test.YtmiedlcblpiemaaGreatDoorRefuteCheckLaw9
import Derived.Test.YtmiedlcblpiemaaGreatDoorOwn21
import Derived.Test.YtmiedlcblpiemaaGreatDoorOwn34
set_option linter.all false

namespace Go.Own
open Go.Proofs
set_option maxRecDepth 100000
theorem mixed:Tryz.prog.follows .mixedOrders=true:=by kernel_rfl
theorem Bh2:As7 env:=by
 intro f p ds r outs hp h;have hp:Ba5 f=some p:=hp;unfold Ba5 at hp
 split at hp
 ·cases hp;cases h
 ·cases hp;obtain ⟨z,hz⟩:=Clo73.ok;exact Aqq (E:=env) (by decide) (enters_of Tryz.func73 (by kernel_rfl) rfl) hz h
 ·cases hp;exact Azi (E:=env) (g:=0) (by decide) (enters_of Tryz.func95 (by kernel_rfl) rfl) Zer.zero Zer.some_ (fun M h=>h) h
 ·cases hp;exact Azh (E:=env) rfl (by decide) (enters_of Tryz.func117 (by kernel_rfl) rfl) Bld.writeOK h
 ·cases hp;exact Axs (E:=env) rfl (enters_of Tryz.func118 (by kernel_rfl) rfl) Bld.stringOK h
 ·cases hp;obtain ⟨z,hz⟩:=Clo120.ok;exact Aqq (E:=env) (by decide) (enters_of Tryz.func120 (by kernel_rfl) rfl) hz h
 ·cases hp
theorem Bf5:As4 env:=by
 intro call hc f q ds r outs hq h;have hq:Azl f=some q:=hq;unfold Azl at hq
 split at hq
 ·cases hq;exact Hol.fnok hc h
 ·cases hq
theorem Bf2:∀ f,Tryz.prog.funcs.size<=f->Bal f=[]:=by
 have hs:Tryz.prog.funcs.size=189:=by kernel_rfl
 have hu:Aq7.under 189=true:=by kernel_rfl
 intro f hf;rw [hs] at hf;unfold Bal;cases h:Aq7.find f with
 | none=>rfl
 | some v=>have:=KT.find_under hu h;omega
theorem Azb:envB env=true:=by kernel_rfl
theorem envOK:EnvOK env:=Bda mixed Bh2 Bf5 Azb Bf2
end Go.Own
