/- What the functions that the law reaches answer. No conditions. -/
import Derived.Test.YtdlkdimkhmpkkaaDoorAttrsetNamedLaw8
import Derived.Test.YtdlkdimkhmpkkaaDoorAttrsetNamedLaw4
import Derived.Test.YtdlkdimkhmpkkaaDoorAttrsetNamedLaw7
import Derived.Test.YtdlkdimkhmpkkaaDoorAttrsetNamedLaw2
set_option linter.all false

namespace Go.Own
namespace drosslaw02_AttrsetNamed
theorem again {φ : Bool → Prop} (h : φ true) : L1 φ := L1_step φ ⟨true, drosslaw02_awake.spec, h⟩
theorem spec (x : ByteArray) (l : List ByteArray) (hl : l.length ≤ 9223372036854775807) (hx : x.size ≤ reachBytes) (hs : ∀ a ∈ l, a.size ≤ reachBytes) : C x l true := by
  obtain ⟨r, h1, h2⟩ := enter x l (fun r => r = true) (by
    refine ⟨true, drosslaw02_awake.spec, ?_⟩
    rw [if_pos rfl]
    refine ⟨_, drossref02_Few.spec hl, ?_⟩
    cases hf : fewF x l with
    | false => rw [if_neg (by decide)]; exact again rfl
    | true =>
      rw [if_pos rfl]
      obtain ⟨f1, f2, f3⟩ := few_true hx (fun a ha => hs a ha) hf
      refine ⟨by omega, _, attrset_Named.spec (by omega) f3, _, drossref02_Named.spec (by omega) f3, ?_⟩
      rw [if_pos rfl, if_pos rfl]
      obtain ⟨n, g1, g2, g3⟩ := named_good x l
      rw [g2]
      refine ⟨_, attrset_Names.spec (by omega) f3, ?_⟩
      split
      · rename_i h0
        rw [g3 h0, if_pos rfl]
        exact beq_self_eq_true _
      · rfl)
  subst h1; exact h2
theorem law {xs : List D} (hx : TyAll env.P drosslaw02_AttrsetNamed_K drosslaw02_AttrsetNamed_T xs) (hr : sbL reachBytes xs) : Ret env drosslaw02_AttrsetNamed_F xs (.lit (.bool true)) [] := by
  obtain ⟨x0, x1, h0, h1, e⟩ := drosslaw02_AttrsetNamed_args (P := env.P) tf hx
  rw [e] at hr ⊢
  have hr1 : x0.size ≤ reachBytes := by simp only [sbL, sb] at hr; exact hr.1
  have hr2 : sb reachBytes (.sl (x1.map eS)) := by simp only [sbL] at hr; exact hr.2.1
  exact spec x0 x1 h1.1 hr1 (sb_strs hr2)
end drosslaw02_AttrsetNamed
end Go.Own
