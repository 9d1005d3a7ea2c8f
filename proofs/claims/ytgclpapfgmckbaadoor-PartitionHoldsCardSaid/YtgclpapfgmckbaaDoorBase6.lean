/- What the interpreter asks of this program, proved. No conditions. -/
import Derived.Test.YtgclpapfgmckbaaDoorBase3
import Derived.Test.YtgclpapfgmckbaaDoorBase5
import Derived.Test.YtgclpapfgmckbaaDoorBase4
import Derived.Test.YtgclpapfgmckbaaDoorOwn22
import Derived.Test.YtgclpapfgmckbaaDoorOwn25
import Derived.Test.YtgclpapfgmckbaaDoorOwn23
set_option linter.all false

namespace Go.Own
open Go.Proofs
theorem primsOK : PrimsOK env := by
  intro f p ds r outs hp h
  have hp : primT f = some p := hp
  unfold primT at hp
  split at hp
  · cases hp
    exact fnok_write (E := env) rfl (by decide) (enters_of Tryd.func55 (by kernel_rfl) rfl) Bld.writeOK h
  · cases hp
    exact fnok_string (E := env) rfl (enters_of Tryd.func56 (by kernel_rfl) rfl) Bld.stringOK h
  · cases hp
    exact fnok_zeros (E := env) (g := 0) (by decide) (enters_of Tryd.func72 (by kernel_rfl) rfl) Zer.zero Zer.some_ (fun M h => h) h
  · cases hp
theorem envVars : ∀ f, Tryd.prog.funcs.size ≤ f → varsT f = [] := by
  have hs : Tryd.prog.funcs.size = 108 := by kernel_rfl
  have hu : varsTree.under 108 = true := by kernel_rfl
  intro f hf
  rw [hs] at hf
  unfold varsT
  cases h : varsTree.find f with
  | none => rfl
  | some v => have := KT.find_under hu h; omega
theorem envChecked : envB env = true := by kernel_rfl
theorem envOK : EnvOK env := envOK_of Bld.mixed primsOK envChecked envVars
end Go.Own
