/- What the functions that the law reaches answer. No conditions. -/
import Derived.Test.YtgclpapfgmckbaaDoorPartitionValidLaw2
import Derived.Test.YtgclpapfgmckbaaDoorPartitionValidLaw1
set_option linter.all false

namespace Go.Own
namespace drosslaw08_PartitionValid
theorem loop {x0 : api_Partition} {φ : Bool → Prop} (h0 : x0.Classes.length ≤ 60) (ht : φ true) : ∀ (r : List (List Int)) (k : Nat), x0.Classes.drop k = r → (∀ c ∈ x0.Classes.take k, c.length ≤ 60) → L1 x0 k φ
  | [], k, hd, hs => by
    apply L1_step
    have := drop_ge hd
    rw [if_neg (by omega)]
    have hsm : Small x0 := by
      rw [List.take_of_length_le this] at hs
      exact ⟨by unfold Big; omega, fun c hc => by have := hs c hc; unfold Big; omega⟩
    refine ⟨_, partition_Valid.spec hsm, _, drossref08_Valid.spec hsm, ?_⟩
    rw [if_pos rfl]
    refine ⟨_, partition_Rank.spec hsm, _, drossref08_Rank.spec hsm, ?_⟩
    simpa using ht
  | c :: r, k, hd, hs => by
    apply L1_step
    have hk := drop_lt hd
    rw [if_pos (by omega)]
    refine ⟨c, lget_drop hd, ?_⟩
    split
    · exact ht
    · rw [wrap_succ (by omega)]
      refine loop h0 ht r (k + 1) (drop_next hd) fun c' hc => ?_
      rw [List.take_add_one, drop_get hd] at hc
      simp only [Option.toList_some, List.mem_append, List.mem_singleton] at hc
      rcases hc with hc | rfl
      · exact hs c' hc
      · omega
theorem spec (x0 : api_Partition) : C x0 true := by
  obtain ⟨r, h1, h2⟩ := enter x0 (fun r => r = true) (by
    refine ⟨true, drosslaw08_awake.spec, ?_⟩
    rw [if_pos rfl]
    split
    · apply L2_step
      exact ⟨true, drosslaw08_awake.spec, rfl⟩
    · exact loop (φ := fun r => r = true) (by omega) rfl x0.Classes 0 rfl (by simp))
  subst h1; exact h2
theorem law {xs : List D} (hx : TyAll env.P 4 [31] xs) : Ret env 4 xs (.lit (.bool true)) [] :=
  drosslaw08_PartitionValid_of (fun x0 _ => spec x0) hx
end drosslaw08_PartitionValid
end Go.Own
