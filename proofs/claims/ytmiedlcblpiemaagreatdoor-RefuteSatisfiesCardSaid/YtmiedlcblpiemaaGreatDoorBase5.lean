/- What it asks of this program. No conditions. -/
import Derived.Test.YtmiedlcblpiemaaGreatDoorBase2
import Derived.Test.YtmiedlcblpiemaaGreatDoorRefuteSatisfiesLaw4
import Derived.Test.YtmiedlcblpiemaaGreatDoorBase4
import Derived.Test.YtmiedlcblpiemaaGreatDoorBase3
import Derived.Test.YtmiedlcblpiemaaGreatDoorRefuteSatisfiesLaw9
import Derived.Test.YtmiedlcblpiemaaGreatDoorOwn21
import Derived.Test.YtmiedlcblpiemaaGreatDoorOwn34
set_option linter.all false

namespace Go.Own
open Go.Proofs
set_option maxRecDepth 100000
theorem mixed:Tryz.prog.follows .mixedOrders=true:=by kernel_rfl
theorem Bgv:As1 env:=by
 intro f p ds r outs hp h;have hp:Ba0 f=some p:=hp;unfold Ba0 at hp
 split at hp
 ·cases hp;cases h
 ·cases hp;obtain ⟨z,hz⟩:=Clo73.ok;exact Aql (E:=env) (by decide) (enters_of Tryz.func73 (by kernel_rfl) rfl) hz h
 ·cases hp;exact Azc (E:=env) (g:=0) (by decide) (enters_of Tryz.func95 (by kernel_rfl) rfl) Zer.zero Zer.some_ (fun M h=>h) h
 ·cases hp;exact Azb (E:=env) rfl (by decide) (enters_of Tryz.func117 (by kernel_rfl) rfl) Bld.writeOK h
 ·cases hp;exact Axl (E:=env) rfl (enters_of Tryz.func118 (by kernel_rfl) rfl) Bld.stringOK h
 ·cases hp;obtain ⟨z,hz⟩:=Clo120.ok;exact Aql (E:=env) (by decide) (enters_of Tryz.func120 (by kernel_rfl) rfl) hz h
 ·cases hp
theorem Bey:Ary env:=by
 intro call hc f q ds r outs hq h;have hq:Azf f=some q:=hq;unfold Azf at hq
 split at hq
 ·cases hq;exact Hol.fnok hc h
 ·cases hq
theorem Bev:∀ f,Tryz.prog.funcs.size<=f->Bag f=[]:=by
 have hs:Tryz.prog.funcs.size=189:=by kernel_rfl
 have hu:Aq2.under 189=true:=by kernel_rfl
 intro f hf;rw [hs] at hf;unfold Bag;cases h:Aq2.find f with
 | none=>rfl
 | some v=>have:=KT.find_under hu h;omega
theorem Az5:envB env=true:=by kernel_rfl
theorem envOK:EnvOK env:=Bd3 mixed Bgv Bey Az5 Bev
end Go.Own
