/- What the interpreter asks of this program, proved. No conditions. -/
import Derived.Test.YtdlkdimkhmpkkaaDoorBase3
import Derived.Test.YtdlkdimkhmpkkaaDoorBase5
import Derived.Test.YtdlkdimkhmpkkaaDoorOwn29
import Derived.Test.YtdlkdimkhmpkkaaDoorAttrsetRestoredLaw6
import Derived.Test.YtdlkdimkhmpkkaaDoorOwn32
import Derived.Test.YtdlkdimkhmpkkaaDoorBase4
import Derived.Test.YtdlkdimkhmpkkaaDoorAttrsetRestoredLaw5
import Derived.Test.YtdlkdimkhmpkkaaDoorOwn19
import Derived.Test.YtdlkdimkhmpkkaaDoorOwn26
import Derived.Test.YtdlkdimkhmpkkaaDoorOwn31
set_option linter.all false

namespace Go.Own
open Go.Proofs
set_option maxRecDepth 100000
theorem mixed : Tryd.prog.follows .mixedOrders = true := by kernel_rfl
theorem primsOK : PrimsOK env := by
  intro f p ds r outs hp h
  have hp : primT f = some p := hp
  unfold primT at hp
  split at hp
  · cases hp
    obtain ⟨z, hz⟩ := Clo14.ok
    exact fnok_clone (E := env) (by decide) (enters_of Tryd.func14 (by kernel_rfl) rfl) hz h
  · cases hp
    obtain ⟨z, hz⟩ := Clo23.ok
    exact fnok_clone (E := env) (by decide) (enters_of Tryd.func23 (by kernel_rfl) rfl) hz h
  · cases hp
    exact fnok_zeros (E := env) (g := 0) (by decide) (enters_of Tryd.func45 (by kernel_rfl) rfl) Zer.zero Zer.some_ (fun M h => h) h
  · cases hp
    obtain ⟨z, hz⟩ := Clo53.ok
    exact fnok_clone (E := env) (by decide) (enters_of Tryd.func53 (by kernel_rfl) rfl) hz h
  · cases hp
    exact fnok_grow (E := env) rfl (by decide) (enters_of Tryd.func68 (by kernel_rfl) rfl) Bld.growOK h
  · cases hp
    exact fnok_write (E := env) rfl (by decide) (enters_of Tryd.func69 (by kernel_rfl) rfl) Bld.writeOK h
  · cases hp
    exact fnok_string (E := env) rfl (enters_of Tryd.func70 (by kernel_rfl) rfl) Bld.stringOK h
  · cases hp
    exact fnok_countByte (E := env) (by decide) (by decide) (fun s c w => by show Sem.run Tryd.prog _ w = _; rw [run_callFunc_extern Tryd.func102 (by kernel_rfl) (by kernel_rfl) (by kernel_rfl) (e := Extern.BytealgCount.count) (by kernel_rfl), Lib.run_countString]; rfl) h
  · cases hp
    exact fnok_indexByte (E := env) (by decide) (by decide) (fun s c w => by show Sem.run Tryd.prog _ w = _; rw [run_callFunc_extern Tryd.func115 (by kernel_rfl) (by kernel_rfl) (by kernel_rfl) (e := Extern.BytealgIndexByte.indexByte) (by kernel_rfl), Lib.run_indexByteString]; rfl) h
  · cases hp
theorem envVars : ∀ f, Tryd.prog.funcs.size ≤ f → varsT f = [] := by
  have hs : Tryd.prog.funcs.size = 141 := by kernel_rfl
  have hu : varsTree.under 141 = true := by kernel_rfl
  intro f hf
  rw [hs] at hf
  unfold varsT
  cases h : varsTree.find f with
  | none => rfl
  | some v => have := KT.find_under hu h; omega
theorem envChecked : envB env = true := by kernel_rfl
theorem envOK : EnvOK env := envOK_of mixed primsOK envChecked envVars
end Go.Own
