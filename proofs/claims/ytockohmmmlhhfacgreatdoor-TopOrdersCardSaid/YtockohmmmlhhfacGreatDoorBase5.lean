/- What it asks of this program. No conditions. -/
import Derived.Test.YtockohmmmlhhfacGreatDoorBase2
import Derived.Test.YtockohmmmlhhfacGreatDoorBase4
import Derived.Test.YtockohmmmlhhfacGreatDoorBase3
import Derived.Test.YtockohmmmlhhfacGreatDoorOwn27
import Derived.Test.YtockohmmmlhhfacGreatDoorTopOrdersLaw3
import Derived.Test.YtockohmmmlhhfacGreatDoorTopOrdersLaw6
set_option linter.all false

namespace Go.Own
open Go.Proofs
set_option maxRecDepth 100000
theorem mixed:Tryz.prog.follows .mixedOrders=true:=by kernel_rfl
theorem Bdl:Aqp env:=by
 intro f p ds r outs hp h;have hp:Axs f=some p:=hp;unfold Axs at hp
 split at hp
 ·cases hp;exact Avm (E:=env) (by decide) (enters_of Tryz.func27 (by kernel_rfl) rfl) Col56.okV h
 ·cases hp;exact Atx (E:=env) (by decide) (enters_of Tryz.func56 (by kernel_rfl) rfl) (by decide) Col56.ok h
 ·cases hp;exact Ax9 (E:=env) rfl (by decide) (enters_of Tryz.func74 (by kernel_rfl) rfl) Bld.writeOK h
 ·cases hp;exact Avl (E:=env) rfl (enters_of Tryz.func75 (by kernel_rfl) rfl) Bld.stringOK h
 ·cases hp;obtain ⟨z,hz⟩:=Clo81.ok;exact Apd (E:=env) (by decide) (enters_of Tryz.func81 (by kernel_rfl) rfl) hz h
 ·cases hp;exact Axa (E:=env) (g:=1) (by decide) (enters_of Tryz.func97 (by kernel_rfl) rfl) Zer.zero Zer.some_ (fun M h=>h) h
 ·cases hp;obtain ⟨z,hz⟩:=Clo102.ok;exact Apd (E:=env) (by decide) (enters_of Tryz.func102 (by kernel_rfl) rfl) hz h
 ·cases hp;exact Bb7 (E:=env) (by decide) (by decide) (fun a b w=>by show Sem.run Tryz.prog _ w=_;rw [run_callFunc_extern Tryz.func117 (by kernel_rfl) (by kernel_rfl) (by kernel_rfl) (e:=Extern.BytealgCompare.compare) (by kernel_rfl),Lib.run_compareString];rfl) h
 ·cases hp
theorem Bcr:Amt env:=Aze fun _=>rfl
theorem Bco:∀ f,Tryz.prog.funcs.size<=f->Ayd f=[]:=by
 have hs:Tryz.prog.funcs.size=165:=by kernel_rfl
 have hu:Aos.under 165=true:=by kernel_rfl
 intro f hf;rw [hs] at hf;unfold Ayd;cases h:Aos.find f with
 | none=>rfl
 | some v=>have:=KT.find_under hu h;omega
theorem Ax5:envB env=true:=by kernel_rfl
theorem envOK:EnvOK env:=Bb4 mixed Bdl Bcr Ax5 Bco
end Go.Own
