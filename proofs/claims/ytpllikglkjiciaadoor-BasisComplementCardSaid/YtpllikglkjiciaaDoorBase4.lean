/- What the interpreter asks of this program, proved. No conditions. -/
import Derived.Test.YtpllikglkjiciaaDoorBase2
import Derived.Test.YtpllikglkjiciaaDoorBase3
import Derived.Test.YtpllikglkjiciaaDoorBasisComplementLaw4
import Derived.Test.YtpllikglkjiciaaDoorOwn23
import Derived.Test.YtpllikglkjiciaaDoorOwn24
import Derived.Test.YtpllikglkjiciaaDoorOwn28
set_option linter.all false

namespace Go.Own
open Go.Proofs
theorem mixed : Tryd.prog.follows .mixedOrders = true := by kernel_rfl
theorem primsOK : PrimsOK env := by
  intro f p ds r outs hp h
  have hp : primT f = some p := hp
  unfold primT at hp
  split at hp
  · cases hp
    obtain ⟨z, hz⟩ := Clo8.ok
    exact fnok_clone (E := env) (by decide) (enters_of Tryd.func8 (by kernel_rfl) rfl) hz h
  · cases hp
    obtain ⟨z, hz⟩ := Clo9.ok
    exact fnok_clone (E := env) (by decide) (enters_of Tryd.func9 (by kernel_rfl) rfl) hz h
  · cases hp
    obtain ⟨z, hz⟩ := Clo40.ok
    exact fnok_clone (E := env) (by decide) (enters_of Tryd.func40 (by kernel_rfl) rfl) hz h
  · cases hp
    exact fnok_zeros (E := env) (g := 0) (by decide) (enters_of Tryd.func44 (by kernel_rfl) rfl) Zer.zero Zer.some_ (fun M h => h) h
  · cases hp
theorem envVars : ∀ f, Tryd.prog.funcs.size ≤ f → varsT f = [] := by
  have hs : Tryd.prog.funcs.size = 89 := by kernel_rfl
  have hu : varsTree.under 89 = true := by kernel_rfl
  intro f hf
  rw [hs] at hf
  unfold varsT
  cases h : varsTree.find f with
  | none => rfl
  | some v => have := KT.find_under hu h; omega
theorem envChecked : envB env = true := by kernel_rfl
theorem envOK : EnvOK env := envOK_of mixed primsOK envChecked envVars
end Go.Own
