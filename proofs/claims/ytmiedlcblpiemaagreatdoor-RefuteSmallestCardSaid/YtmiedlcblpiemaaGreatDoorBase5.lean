/- What it asks of this program. No conditions. -/
import Derived.Test.YtmiedlcblpiemaaGreatDoorBase2
import Derived.Test.YtmiedlcblpiemaaGreatDoorRefuteSmallestLaw3
import Derived.Test.YtmiedlcblpiemaaGreatDoorBase4
import Derived.Test.YtmiedlcblpiemaaGreatDoorBase3
import Derived.Test.YtmiedlcblpiemaaGreatDoorRefuteSmallestLaw5
import Derived.Test.YtmiedlcblpiemaaGreatDoorOwn21
import Derived.Test.YtmiedlcblpiemaaGreatDoorOwn31
set_option linter.all false

namespace Go.Own
open Go.Proofs
set_option maxRecDepth 100000
theorem mixed:Tryz.prog.follows .mixedOrders=true:=by kernel_rfl
theorem Bjt:Atg env:=by
 intro f p ds r outs hp h;have hp:Bc9 f=some p:=hp;unfold Bc9 at hp
 split at hp
 .cases hp;cases h
 .cases hp;obtain⟨z,hz⟩:=Clo73.ok;exact Ajd (E:=env) (by decide) (enters_of Tryz.func73 (by kernel_rfl) rfl) hz h
 .cases hp;exact Bbn (E:=env) (g:=0) (by decide) (enters_of Tryz.func95 (by kernel_rfl) rfl) Zer.zero Zer.some_ (fun M h=>h) h
 .cases hp;exact Bbm (E:=env) rfl (by decide) (enters_of Tryz.func117 (by kernel_rfl) rfl) Bld.writeOK h
 .cases hp;exact Azq (E:=env) rfl (enters_of Tryz.func118 (by kernel_rfl) rfl) Bld.stringOK h
 .cases hp;obtain⟨z,hz⟩:=Clo120.ok;exact Ajd (E:=env) (by decide) (enters_of Tryz.func120 (by kernel_rfl) rfl) hz h
 .cases hp;obtain⟨z,hz⟩:=Clo127.ok;exact Ajd (E:=env) (by decide) (enters_of Tryz.func127 (by kernel_rfl) rfl) hz h
 .cases hp;obtain⟨z,hz⟩:=Clo146.ok;exact Ajd (E:=env) (by decide) (enters_of Tryz.func146 (by kernel_rfl) rfl) hz h
 .cases hp
theorem Bhn:Atd env:=by
 intro call hc f q ds r outs hq h;have hq:Bbq f=some q:=hq;unfold Bbq at hq
 split at hq
 .cases hq;exact Hol.fnok hc h
 .cases hq
theorem Bhk:∀f,Tryz.prog.funcs.size<=f->Bcr f=[]:=by
 have hs:Tryz.prog.funcs.size=189:=by kernel_rfl
 have hu:Ara.under 189=true:=by kernel_rfl
 intro f hf;rw[hs]at hf;unfold Bcr;cases h:Ara.find f with
 |none=>rfl
 |some v=>have:=KT.find_under hu h;omega
theorem Bbg:envB env=true:=by kernel_rfl
theorem envOK:EnvOK env:=Bfm mixed Bjt Bhn Bbg Bhk
end Go.Own
