/- What the interpreter asks of this program, proved. No conditions. -/
import Derived.Test.YteenpfaegjdkoaaBase3
import Derived.Test.YteenpfaegjdkoaaBase4
import Derived.Test.YteenpfaegjdkoaaOwn29
import Derived.Test.YteenpfaegjdkoaaOwn32
import Derived.Test.YteenpfaegjdkoaaOwn19
import Derived.Test.YteenpfaegjdkoaaOwn26
import Derived.Test.YteenpfaegjdkoaaOwn31
set_option linter.all false

namespace Go.Own
open Go.Proofs
set_option maxRecDepth 100000
theorem mixed:Try.prog.follows .mixedOrders=true:=by kernel_rfl
theorem primsOK:PrimsOK env:=by
 intro f p ds r outs hp h
 have hp:primT f=some p:=hp
 unfold primT at hp
 split at hp
 ·cases hp
  exact fnok_write (E:=env) rfl (by decide) (enters_of Try.func53 (by kernel_rfl) rfl) Bld.writeOK h
 ·cases hp
  exact fnok_string (E:=env) rfl (enters_of Try.func54 (by kernel_rfl) rfl) Bld.stringOK h
 ·cases hp
  exact fnok_cmp (E:=env) (by decide) (by decide) (fun a b w=>by show Sem.run Try.prog _ w=_;rw [run_callFunc_extern Try.func78 (by kernel_rfl) (by kernel_rfl) (by kernel_rfl) (e:=Extern.BytealgCompare.compare) (by kernel_rfl),Lib.run_compareString];rfl) h
 ·cases hp
theorem envVars:∀ f,Try.prog.funcs.size≤f→varsT f=[]:=by
 have hs:Try.prog.funcs.size=97:=by kernel_rfl
 have hu:varsTree.under 97=true:=by kernel_rfl
 intro f hf
 rw [hs] at hf
 unfold varsT
 cases h:varsTree.find f with
 | none=>rfl
 | some v=>have:=KT.find_under hu h;omega
theorem envChecked:envB env=true:=by kernel_rfl
theorem envOK:EnvOK env:=envOK_of mixed primsOK envChecked envVars
end Go.Own
