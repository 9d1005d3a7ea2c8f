/- No conditions. -/
import Derived.Test.YtbmbbljdpnpmeaaGreatDoorBase2
import Derived.Test.YtbmbbljdpnpmeaaGreatDoorTopCoversLaw1
import Derived.Test.YtbmbbljdpnpmeaaGreatDoorBase4
import Derived.Test.YtbmbbljdpnpmeaaGreatDoorBase3
import Derived.Test.YtbmbbljdpnpmeaaGreatDoorTopCoversLaw6
import Derived.Test.YtbmbbljdpnpmeaaGreatDoorTopCoversLaw7
import Derived.Test.YtbmbbljdpnpmeaaGreatDoorOwn20
import Derived.Test.YtbmbbljdpnpmeaaGreatDoorOwn30
set_option linter.all false

namespace Go.Own
open Go.Proofs
set_option maxRecDepth 100000
theorem mixed:Tryz.prog.follows .mixedOrders=true:=by kernel_rfl
theorem Bjv:Atc env:=by
 intro f p ds r outs hp h;have hp:Bbo f=some p:=hp;unfold Bbo at hp
 split at hp
 ·cases hp;cases h
 ·cases hp;obtain ⟨z,hz⟩:=Clo124.ok;exact As0 (E:=env) (by decide) (enters_of Tryz.func124 (by kernel_rfl) rfl) hz h
 ·cases hp;obtain ⟨z,hz⟩:=Clo129.ok;exact As0 (E:=env) (by decide) (enters_of Tryz.func129 (by kernel_rfl) rfl) hz h
 ·cases hp;exact Bb1 (E:=env) rfl (by decide) (enters_of Tryz.func140 (by kernel_rfl) rfl) Bld.writeOK h
 ·cases hp;exact Ayz (E:=env) rfl (enters_of Tryz.func141 (by kernel_rfl) rfl) Bld.stringOK h
 ·cases hp;exact Bb2 (E:=env) (g:=0) (by decide) (enters_of Tryz.func177 (by kernel_rfl) rfl) Zer.zero Zer.some_ (fun M h=>h) h
 ·cases hp;obtain ⟨z,hz⟩:=Cat193.ok;exact Ayy (E:=env) (by decide) (enters_of Tryz.func193 (by kernel_rfl) rfl) hz h
 ·cases hp
theorem Bhe:At9 env:=by
 intro call hc f q ds r outs hq h;have hq:Bb7 f=some q:=hq;unfold Bb7 at hq
 split at hq
 ·cases hq;exact Blk.fnok hc h
 ·cases hq
theorem Bhb:∀ f,Tryz.prog.funcs.size<=f->Bc9 f=[]:=by
 have hs:Tryz.prog.funcs.size=326:=by kernel_rfl
 have hu:Arf.under 326=true:=by kernel_rfl
 intro f hf;rw [hs] at hf;unfold Bc9;cases h:Arf.find f with
 | none=>rfl
 | some v=>have:=KT.find_under hu h;omega
theorem Bax:envB env=true:=by kernel_rfl
theorem envOK:EnvOK env:=Bfa mixed Bjv Bhe Bax Bhb
end Go.Own
