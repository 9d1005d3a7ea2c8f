/- What the interpreter asks of this program, proved. No conditions. -/
import Derived.Test.YtjiphhbagdangaaBase2
import Derived.Test.YtjiphhbagdangaaArmstrongMeetLaw5
import Derived.Test.YtjiphhbagdangaaOwn19
import Derived.Test.YtjiphhbagdangaaOwn26
import Derived.Test.YtjiphhbagdangaaOwn31
set_option linter.all false

namespace Go.Own
open Go.Proofs
set_option maxRecDepth 100000
theorem mixed : Try.prog.follows .mixedOrders = true := by kernel_rfl
theorem primsOK : PrimsOK env := by
  intro f p ds r outs hp h
  have hp : primT f = some p := hp
  unfold primT at hp
  split at hp
  · cases hp
    obtain ⟨z, hz⟩ := Clo10.ok
    exact fnok_clone (E := env) (by decide) (enters_of Try.func10 (by kernel_rfl) rfl) hz h
  · cases hp
    obtain ⟨z, hz⟩ := Clo53.ok
    exact fnok_clone (E := env) (by decide) (enters_of Try.func53 (by kernel_rfl) rfl) hz h
  · cases hp
theorem envVars : ∀ f, Try.prog.funcs.size ≤ f → varsT f = [] := by
  have hs : Try.prog.funcs.size = 107 := by kernel_rfl
  have hu : varsTree.under 107 = true := by kernel_rfl
  intro f hf
  rw [hs] at hf
  unfold varsT
  cases h : varsTree.find f with
  | none => rfl
  | some v => have := KT.find_under hu h; omega
theorem envChecked : envB env = true := by kernel_rfl
theorem envOK : EnvOK env := envOK_of mixed primsOK envChecked envVars
end Go.Own
