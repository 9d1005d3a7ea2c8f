/- No conditions. -/
import Derived.Test.YtfpooeoklmlepaaGreatDoorBase2
import Derived.Test.YtfpooeoklmlepaaGreatDoorBase4
import Derived.Test.YtfpooeoklmlepaaGreatDoorBase3
import Derived.Test.YtfpooeoklmlepaaGreatDoorTractableSolveLaw4
set_option linter.all false

namespace Go.Own
open Go.Proofs
set_option maxRecDepth 100000
theorem mixed:Tryz.prog.follows .mixedOrders=true:=by kernel_rfl
theorem Bjo:Atf env:=by
 intro f p ds r outs hp h;have hp:Bbt f=some p:=hp;unfold Bbt at hp
 split at hp
 .cases hp;obtain⟨z,hz⟩:=Clo10.ok;exact Arw (E:=env) (by decide) (enters_of Tryz.func10 (by kernel_rfl) rfl) hz h
 .cases hp;exact Bbb (E:=env) rfl (by decide) (enters_of Tryz.func99 (by kernel_rfl) rfl) Bld.writeOK h
 .cases hp;exact Azb (E:=env) rfl (enters_of Tryz.func100 (by kernel_rfl) rfl) Bld.stringOK h
 .cases hp;obtain⟨z,hz⟩:=Clo112.ok;exact Arw (E:=env) (by decide) (enters_of Tryz.func112 (by kernel_rfl) rfl) hz h
 .cases hp;exact Bbc (E:=env) (g:=0) (by decide) (enters_of Tryz.func116 (by kernel_rfl) rfl) Zer.zero Zer.some_ (fun M h=>h) h
 .cases hp
theorem Bhr:Aow env:=Bdd fun _=>rfl
theorem Bhn:∀f,Tryz.prog.funcs.size<=f->Bc9 f=[]:=by
 have hs:Tryz.prog.funcs.size=174:=by kernel_rfl
 have hu:Ar8.under 174=true:=by kernel_rfl
 intro f hf;rw[hs]at hf;unfold Bc9;cases h:Ar8.find f with
 |none=>rfl
 |some v=>have:=KT.find_under hu h;omega
theorem Bb7:envB env=true:=by kernel_rfl
theorem envOK:EnvOK env:=Bfl mixed Bjo Bhr Bb7 Bhn
end Go.Own
