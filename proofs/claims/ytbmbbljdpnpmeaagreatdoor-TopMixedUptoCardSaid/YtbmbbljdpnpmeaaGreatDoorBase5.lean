/- No conditions. -/
import Derived.Test.YtbmbbljdpnpmeaaGreatDoorBase2
import Derived.Test.YtbmbbljdpnpmeaaGreatDoorTopMixedLaw3
import Derived.Test.YtbmbbljdpnpmeaaGreatDoorTopMixedLaw5
import Derived.Test.YtbmbbljdpnpmeaaGreatDoorBase4
import Derived.Test.YtbmbbljdpnpmeaaGreatDoorBase3
import Derived.Test.YtbmbbljdpnpmeaaGreatDoorTopMixedLaw9
import Derived.Test.YtbmbbljdpnpmeaaGreatDoorOwn21
import Derived.Test.YtbmbbljdpnpmeaaGreatDoorOwn31
set_option linter.all false

namespace Go.Own
open Go.Proofs
set_option maxRecDepth 100000
theorem mixed:Tryz.prog.follows .mixedOrders=true:=by kernel_rfl
theorem Bl4:Au8 env:=by
 intro f p ds r outs hp h;have hp:Bd9 f=some p:=hp;unfold Bd9 at hp
 split at hp
 ·cases hp;cases h
 ·cases hp;cases h
 ·cases hp;obtain ⟨z,hz⟩:=Clo124.ok;exact Asw (E:=env) (by decide) (enters_of Tryz.func124 (by kernel_rfl) rfl) hz h
 ·cases hp;obtain ⟨z,hz⟩:=Clo129.ok;exact Asw (E:=env) (by decide) (enters_of Tryz.func129 (by kernel_rfl) rfl) hz h
 ·cases hp;exact Bcj (E:=env) rfl (by decide) (enters_of Tryz.func140 (by kernel_rfl) rfl) Bld.writeOK h
 ·cases hp;exact Bak (E:=env) rfl (enters_of Tryz.func141 (by kernel_rfl) rfl) Bld.stringOK h
 ·cases hp;exact Bck (E:=env) (g:=0) (by decide) (enters_of Tryz.func177 (by kernel_rfl) rfl) Zer.zero Zer.some_ (fun M h=>h) h
 ·cases hp
theorem Bj8:Au6 env:=by
 intro call hc f q ds r outs hq h;have hq:Bcp f=some q:=hq;unfold Bcp at hq
 split at hq
 ·cases hq;exact Hol.fnok hc h
 ·cases hq;exact Blk.fnok hc h
 ·cases hq
theorem Bj4:∀ f,Tryz.prog.funcs.size<=f->Bdu f=[]:=by
 have hs:Tryz.prog.funcs.size=326:=by kernel_rfl
 have hu:As6.under 326=true:=by kernel_rfl
 intro f hf;rw [hs] at hf;unfold Bdu;cases h:As6.find f with
 | none=>rfl
 | some v=>have:=KT.find_under hu h;omega
theorem Bcd:envB env=true:=by kernel_rfl
theorem envOK:EnvOK env:=Bgy mixed Bl4 Bj8 Bcd Bj4
end Go.Own
