/- What the functions that the law reaches answer. No conditions. -/
import Derived.Test.YtgclpapfgmckbaaDoorPartitionRemovalLaw2
import Derived.Test.YtgclpapfgmckbaaDoorPartitionRemovalLaw1
import Derived.Test.YtgclpapfgmckbaaDoorPartitionRemovalLaw3
set_option linter.all false

namespace Go.Own
theorem Small_of {p : api_Partition} (h : ok_api_Partition p) : Small p := Small_of_ok ⟨h.2.1, fun c hc => (h.2.2 c hc).1⟩
namespace drosslaw08_PartitionRemoval
theorem again {φ : Bool → Prop} (h : φ true) : L1 φ := L1_step φ ⟨true, drosslaw08_awake.spec, h⟩
theorem spec (x0 x1 : api_Partition) (h0 : Small x0) (h1 : Small x1) : C x0 x1 true := by
  obtain ⟨r, h1, h2⟩ := enter x0 x1 (fun r => r = true) (by
    refine ⟨true, drosslaw08_awake.spec, ?_⟩
    rw [if_pos rfl]
    refine ⟨_, drossref08_Few.spec h0, ?_⟩
    split
    · refine ⟨_, drossref08_Few.spec h1, ?_⟩
      split
      · refine ⟨_, partition_Removal.spec h0 h1, _, drossref08_Removal.spec h0 h1, ?_⟩
        rw [if_pos rfl]
        simp
      · exact again rfl
    · exact again rfl)
  subst h1; exact h2
theorem law {xs : List D} (hx : TyAll env.P 4 [31, 31] xs) : Ret env 7 xs (.lit (.bool true)) [] :=
  drosslaw08_PartitionRemoval_of (fun x0 x1 h0 h1 => spec x0 x1 (Small_of h0) (Small_of h1)) hx
end drosslaw08_PartitionRemoval
end Go.Own
