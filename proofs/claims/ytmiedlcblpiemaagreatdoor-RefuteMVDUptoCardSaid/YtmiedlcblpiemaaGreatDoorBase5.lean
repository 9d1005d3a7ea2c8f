/- What it asks of this program. No conditions. -/
import Derived.Test.YtmiedlcblpiemaaGreatDoorBase2
import Derived.Test.YtmiedlcblpiemaaGreatDoorRefuteMVDLaw2
import Derived.Test.YtmiedlcblpiemaaGreatDoorRefuteMVDLaw4
import Derived.Test.YtmiedlcblpiemaaGreatDoorBase4
import Derived.Test.YtmiedlcblpiemaaGreatDoorBase3
import Derived.Test.YtmiedlcblpiemaaGreatDoorRefuteMVDLaw6
import Derived.Test.YtmiedlcblpiemaaGreatDoorOwn21
import Derived.Test.YtmiedlcblpiemaaGreatDoorOwn31
set_option linter.all false

namespace Go.Own
open Go.Proofs
set_option maxRecDepth 100000
theorem mixed:Tryz.prog.follows .mixedOrders=true:=by kernel_rfl
theorem Bll:Avc env:=by
 intro f p ds r outs hp h;have hp:Be9 f=some p:=hp;unfold Be9 at hp
 split at hp
 .cases hp;cases h
 .cases hp;obtain⟨z,hz⟩:=Clo73.ok;exact Atu (E:=env) (by decide) (enters_of Tryz.func73 (by kernel_rfl) rfl) hz h
 .cases hp;cases h
 .cases hp;exact Bdn (E:=env) (g:=0) (by decide) (enters_of Tryz.func95 (by kernel_rfl) rfl) Zer.zero Zer.some_ (fun M h=>h) h
 .cases hp;exact Bdm (E:=env) rfl (by decide) (enters_of Tryz.func117 (by kernel_rfl) rfl) Bld.writeOK h
 .cases hp;exact Bbo (E:=env) rfl (enters_of Tryz.func118 (by kernel_rfl) rfl) Bld.stringOK h
 .cases hp;obtain⟨z,hz⟩:=Clo120.ok;exact Atu (E:=env) (by decide) (enters_of Tryz.func120 (by kernel_rfl) rfl) hz h
 .cases hp
theorem Bju:Ava env:=by
 intro call hc f q ds r outs hq h;have hq:Bdr f=some q:=hq;unfold Bdr at hq
 split at hq
 .cases hq;exact Hol.fnok hc h
 .cases hq;exact Blk.fnok hc h
 .cases hq
theorem Bjq:∀f,Tryz.prog.funcs.size<=f->Bep f=[]:=by
 have hs:Tryz.prog.funcs.size=189:=by kernel_rfl
 have hu:At4.under 189=true:=by kernel_rfl
 intro f hf;rw[hs]at hf;unfold Bep;cases h:At4.find f with
 |none=>rfl
 |some v=>have:=KT.find_under hu h;omega
theorem Bdg:envB env=true:=by kernel_rfl
theorem envOK:EnvOK env:=Bhm mixed Bll Bju Bdg Bjq
end Go.Own
