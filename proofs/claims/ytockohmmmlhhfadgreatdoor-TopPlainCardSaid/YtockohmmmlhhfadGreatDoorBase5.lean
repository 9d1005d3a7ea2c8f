/- What it asks of this program. No conditions. -/
import Derived.Test.YtockohmmmlhhfadGreatDoorBase2
import Derived.Test.YtockohmmmlhhfadGreatDoorTopPlainLaw2
import Derived.Test.YtockohmmmlhhfadGreatDoorBase4
import Derived.Test.YtockohmmmlhhfadGreatDoorBase3
import Derived.Test.YtockohmmmlhhfadGreatDoorOwn32
import Derived.Test.YtockohmmmlhhfadGreatDoorTopPlainLaw4
import Derived.Test.YtockohmmmlhhfadGreatDoorOwn20
import Derived.Test.YtockohmmmlhhfadGreatDoorOwn31
set_option linter.all false

namespace Go.Own
open Go.Proofs
set_option maxRecDepth 100000
theorem mixed:Tryz.prog.follows .mixedOrders=true:=by kernel_rfl
theorem Bh7:Asn env:=by
 intro f p ds r outs hp h;have hp:Bah f=some p:=hp;unfold Bah at hp
 split at hp
 ·cases hp;obtain ⟨z,hz⟩:=Clo24.ok;exact Aij (E:=env) (by decide) (enters_of Tryz.func24 (by kernel_rfl) rfl) hz h
 ·cases hp;cases h
 ·cases hp;exact Azr (E:=env) rfl (by decide) (enters_of Tryz.func54 (by kernel_rfl) rfl) Bld.writeOK h
 ·cases hp;exact Axv (E:=env) rfl (enters_of Tryz.func55 (by kernel_rfl) rfl) Bld.stringOK h
 ·cases hp;exact Azs (E:=env) (g:=0) (by decide) (enters_of Tryz.func57 (by kernel_rfl) rfl) Zer.zero Zer.some_ (fun M h=>h) h
 ·cases hp;cases h
 ·cases hp;obtain ⟨z,hz⟩:=Clo75.ok;exact Aij (E:=env) (by decide) (enters_of Tryz.func75 (by kernel_rfl) rfl) hz h
 ·cases hp;obtain ⟨z,hz⟩:=Clo94.ok;exact Aij (E:=env) (by decide) (enters_of Tryz.func94 (by kernel_rfl) rfl) hz h
 ·cases hp;obtain ⟨z,hz⟩:=Clo99.ok;exact Aij (E:=env) (by decide) (enters_of Tryz.func99 (by kernel_rfl) rfl) hz h
 ·cases hp;exact Bdz (E:=env) (by decide) (by decide) (fun a b w=>by show Sem.run Tryz.prog _ w=_;rw [run_callFunc_extern Tryz.func164 (by kernel_rfl) (by kernel_rfl) (by kernel_rfl) (e:=Extern.BytealgCompare.compare) (by kernel_rfl),Lib.run_compareString];rfl) h
 ·cases hp
theorem Bfq:Asj env:=by
 intro call hc f q ds r outs hq h;have hq:Azx f=some q:=hq;unfold Azx at hq
 split at hq
 ·cases hq;exact Vio.fnok hc h
 ·cases hq;exact Vio.fnokVis hc h
 ·cases hq
theorem Bfo:∀ f,Tryz.prog.funcs.size<=f->Bb0 f=[]:=by
 have hs:Tryz.prog.funcs.size=188:=by kernel_rfl
 have hu:Aqt.under 188=true:=by kernel_rfl
 intro f hf;rw [hs] at hf;unfold Bb0;cases h:Aqt.find f with
 | none=>rfl
 | some v=>have:=KT.find_under hu h;omega
theorem Azn:envB env=true:=by kernel_rfl
theorem envOK:EnvOK env:=Bdw mixed Bh7 Bfq Azn Bfo
end Go.Own
