/- No conditions. -/
import Derived.Test.YtfpooeoklmlepaaGreatDoorBase2
import Derived.Test.YtfpooeoklmlepaaGreatDoorBase4
import Derived.Test.YtfpooeoklmlepaaGreatDoorBase3
import Derived.Test.YtfpooeoklmlepaaGreatDoorTractableErrorsLaw6
set_option linter.all false

namespace Go.Own
open Go.Proofs
set_option maxRecDepth 100000
theorem mixed:Tryz.prog.follows .mixedOrders=true:=by kernel_rfl
theorem Bis:Asy env:=by
 intro f p ds r outs hp h;have hp:Bb8 f=some p:=hp;unfold Bb8 at hp
 split at hp
 ·cases hp;obtain ⟨z,hz⟩:=Clo10.ok;exact Are (E:=env) (by decide) (enters_of Tryz.func10 (by kernel_rfl) rfl) hz h
 ·cases hp;exact Bap (E:=env) rfl (by decide) (enters_of Tryz.func99 (by kernel_rfl) rfl) Bld.writeOK h
 ·cases hp;exact Ayo (E:=env) rfl (enters_of Tryz.func100 (by kernel_rfl) rfl) Bld.stringOK h
 ·cases hp;obtain ⟨z,hz⟩:=Clo112.ok;exact Are (E:=env) (by decide) (enters_of Tryz.func112 (by kernel_rfl) rfl) hz h
 ·cases hp;exact Baq (E:=env) (g:=0) (by decide) (enters_of Tryz.func116 (by kernel_rfl) rfl) Zer.zero Zer.some_ (fun M h=>h) h
 ·cases hp
theorem Bgy:Aoh env:=Bcr fun _=>rfl
theorem Bgu:∀ f,Tryz.prog.funcs.size<=f->Bbo f=[]:=by
 have hs:Tryz.prog.funcs.size=174:=by kernel_rfl
 have hu:Aqt.under 174=true:=by kernel_rfl
 intro f hf;rw [hs] at hf;unfold Bbo;cases h:Aqt.find f with
 | none=>rfl
 | some v=>have:=KT.find_under hu h;omega
theorem Bal:envB env=true:=by kernel_rfl
theorem envOK:EnvOK env:=Bev mixed Bis Bgy Bal Bgu
end Go.Own
