/- No conditions. -/
import Derived.Test.YtfpooeoklmlepaaGreatDoorBase2
import Derived.Test.YtfpooeoklmlepaaGreatDoorBase4
import Derived.Test.YtfpooeoklmlepaaGreatDoorBase3
import Derived.Test.YtfpooeoklmlepaaGreatDoorTractableEqualLaw4
set_option linter.all false

namespace Go.Own
open Go.Proofs
set_option maxRecDepth 100000
theorem mixed:Tryz.prog.follows .mixedOrders=true:=by kernel_rfl
theorem Bjc:At7 env:=by
 intro f p ds r outs hp h;have hp:Bbk f=some p:=hp;unfold Bbk at hp
 split at hp
 .cases hp;obtain⟨z,hz⟩:=Clo10.ok;exact Aro (E:=env) (by decide) (enters_of Tryz.func10 (by kernel_rfl) rfl) hz h
 .cases hp;exact Bb1 (E:=env) rfl (by decide) (enters_of Tryz.func99 (by kernel_rfl) rfl) Bld.writeOK h
 .cases hp;exact Ayz (E:=env) rfl (enters_of Tryz.func100 (by kernel_rfl) rfl) Bld.stringOK h
 .cases hp;obtain⟨z,hz⟩:=Clo112.ok;exact Aro (E:=env) (by decide) (enters_of Tryz.func112 (by kernel_rfl) rfl) hz h
 .cases hp;exact Bb2 (E:=env) (g:=0) (by decide) (enters_of Tryz.func116 (by kernel_rfl) rfl) Zer.zero Zer.some_ (fun M h=>h) h
 .cases hp
theorem Bhf:Aop env:=Bd3 fun _=>rfl
theorem Bhb:∀f,Tryz.prog.funcs.size<=f->Bbz f=[]:=by
 have hs:Tryz.prog.funcs.size=174:=by kernel_rfl
 have hu:Ar0.under 174=true:=by kernel_rfl
 intro f hf;rw[hs]at hf;unfold Bbz;cases h:Ar0.find f with
 |none=>rfl
 |some v=>have:=KT.find_under hu h;omega
theorem Bax:envB env=true:=by kernel_rfl
theorem envOK:EnvOK env:=Bfa mixed Bjc Bhf Bax Bhb
end Go.Own
