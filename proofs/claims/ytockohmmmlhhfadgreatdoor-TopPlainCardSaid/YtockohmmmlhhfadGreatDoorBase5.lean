/- What it asks of this program. No conditions. -/
import Derived.Test.YtockohmmmlhhfadGreatDoorBase2
import Derived.Test.YtockohmmmlhhfadGreatDoorTopPlainLaw2
import Derived.Test.YtockohmmmlhhfadGreatDoorBase4
import Derived.Test.YtockohmmmlhhfadGreatDoorBase3
import Derived.Test.YtockohmmmlhhfadGreatDoorOwn32
import Derived.Test.YtockohmmmlhhfadGreatDoorTopPlainLaw4
import Derived.Test.YtockohmmmlhhfadGreatDoorOwn20
import Derived.Test.YtockohmmmlhhfadGreatDoorOwn31
set_option linter.all false

namespace Go.Own
open Go.Proofs
set_option maxRecDepth 100000
theorem mixed:Tryz.prog.follows .mixedOrders=true:=by kernel_rfl
theorem Bhe:Asu env:=by
 intro f p ds r outs hp h;have hp:Bao f=some p:=hp;unfold Bao at hp
 split at hp
 ·cases hp;obtain ⟨z,hz⟩:=Clo24.ok;exact Aim (E:=env) (by decide) (enters_of Tryz.func24 (by kernel_rfl) rfl) hz h
 ·cases hp;cases h
 ·cases hp;exact Azy (E:=env) rfl (by decide) (enters_of Tryz.func54 (by kernel_rfl) rfl) Bld.writeOK h
 ·cases hp;exact Ay2 (E:=env) rfl (enters_of Tryz.func55 (by kernel_rfl) rfl) Bld.stringOK h
 ·cases hp;exact Azz (E:=env) (g:=0) (by decide) (enters_of Tryz.func57 (by kernel_rfl) rfl) Zer.zero Zer.some_ (fun M h=>h) h
 ·cases hp;cases h
 ·cases hp;obtain ⟨z,hz⟩:=Clo75.ok;exact Aim (E:=env) (by decide) (enters_of Tryz.func75 (by kernel_rfl) rfl) hz h
 ·cases hp;obtain ⟨z,hz⟩:=Clo94.ok;exact Aim (E:=env) (by decide) (enters_of Tryz.func94 (by kernel_rfl) rfl) hz h
 ·cases hp;obtain ⟨z,hz⟩:=Clo99.ok;exact Aim (E:=env) (by decide) (enters_of Tryz.func99 (by kernel_rfl) rfl) hz h
 ·cases hp;exact Be6 (E:=env) (by decide) (by decide) (fun a b w=>by show Sem.run Tryz.prog _ w=_;rw [run_callFunc_extern Tryz.func164 (by kernel_rfl) (by kernel_rfl) (by kernel_rfl) (e:=Extern.BytealgCompare.compare) (by kernel_rfl),Lib.run_compareString];rfl) h
 ·cases hp
theorem Bfx:Asr env:=by
 intro call hc f q ds r outs hq h;have hq:Ba4 f=some q:=hq;unfold Ba4 at hq
 split at hq
 ·cases hq;exact Vio.fnok hc h
 ·cases hq;exact Vio.fnokVis hc h
 ·cases hq
theorem Bfv:∀ f,Tryz.prog.funcs.size<=f->Bb7 f=[]:=by
 have hs:Tryz.prog.funcs.size=188:=by kernel_rfl
 have hu:Ar0.under 188=true:=by kernel_rfl
 intro f hf;rw [hs] at hf;unfold Bb7;cases h:Ar0.find f with
 | none=>rfl
 | some v=>have:=KT.find_under hu h;omega
theorem Azu:envB env=true:=by kernel_rfl
theorem envOK:EnvOK env:=Be3 mixed Bhe Bfx Azu Bfv
end Go.Own
