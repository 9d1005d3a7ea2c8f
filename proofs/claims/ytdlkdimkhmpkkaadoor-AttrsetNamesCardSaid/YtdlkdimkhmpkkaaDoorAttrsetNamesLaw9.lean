/- What the functions that the law reaches answer. No conditions. -/
import Derived.Test.YtdlkdimkhmpkkaaDoorAttrsetNamesLaw8
import Derived.Test.YtdlkdimkhmpkkaaDoorAttrsetNamesLaw4
import Derived.Test.YtdlkdimkhmpkkaaDoorAttrsetNamesLaw7
import Derived.Test.YtdlkdimkhmpkkaaDoorAttrsetNamesLaw2
set_option linter.all false

namespace Go.Own
namespace drosslaw02_AttrsetNames
theorem again {φ : Bool → Prop} (h : φ true) : L1 φ := L1_step φ ⟨true, drosslaw02_awake.spec, h⟩
theorem spec (x : Int) (l : List ByteArray) (hu : U32 x) (hl : l.length ≤ 9223372036854775807) (hs : ∀ a ∈ l, a.size ≤ reachBytes) : C x l true := by
  obtain ⟨r, h1, h2⟩ := enter x l (fun r => r = true) (by
    refine ⟨true, drosslaw02_awake.spec, ?_⟩
    rw [if_pos rfl]
    refine ⟨_, drossref02_Few.spec hl, ?_⟩
    cases hf : fewF (⟨#[]⟩ : ByteArray) l with
    | false => rw [if_neg (by decide)]; exact again rfl
    | true =>
      rw [if_pos rfl]
      obtain ⟨f1, f2, f3⟩ := few_true (by decide) (fun a ha => hs a ha) hf
      have a1 := attrset_Names.spec (l := l) hu.lt f3
      have a2 := drossref02_Names.spec (l := l) hu.lt f3
      rw [← hu.eq] at a1 a2
      refine ⟨by omega, _, a1, _, a2, ?_⟩
      rw [if_pos rfl]
      exact beq_self_eq_true _)
  subst h1; exact h2
theorem law {xs : List D} (hx : TyAll env.P drosslaw02_AttrsetNames_K drosslaw02_AttrsetNames_T xs) (hr : sbL reachBytes xs) : Ret env drosslaw02_AttrsetNames_F xs (.lit (.bool true)) [] := by
  obtain ⟨x0, x1, h0, h1, e⟩ := drosslaw02_AttrsetNames_args (P := env.P) tf hx
  rw [e] at hr ⊢
  have h1l : x1.length ≤ maxLen := h1.1
  have hr2 : sb reachBytes (.sl (x1.map eS)) := by simp only [sbL] at hr; exact hr.2.1
  exact spec x0 x1 (u32_of h0) h1l (sb_strs hr2)
end drosslaw02_AttrsetNames
end Go.Own
