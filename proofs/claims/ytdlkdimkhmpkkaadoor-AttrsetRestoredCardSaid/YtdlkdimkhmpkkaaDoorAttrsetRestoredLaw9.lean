/- What the functions that the law reaches answer. No conditions. -/
import Derived.Test.YtdlkdimkhmpkkaaDoorAttrsetRestoredLaw8
import Derived.Test.YtdlkdimkhmpkkaaDoorAttrsetRestoredLaw4
import Derived.Test.YtdlkdimkhmpkkaaDoorAttrsetRestoredLaw7
import Derived.Test.YtdlkdimkhmpkkaaDoorAttrsetRestoredLaw2
set_option linter.all false

namespace Go.Own
namespace drosslaw02_AttrsetRestored
theorem again {φ : Bool → Prop} (h : φ true) : L1 φ := L1_step φ ⟨true, drosslaw02_awake.spec, h⟩
theorem spec (n : Nat) (l : List ByteArray) (hn : n < 65536) (hl : l.length ≤ 9223372036854775807) (hs : ∀ a ∈ l, a.size ≤ reachBytes) : C n l true := by
  obtain ⟨r, h1, h2⟩ := enter n l (fun r => r = true) (by
    refine ⟨true, drosslaw02_awake.spec, ?_⟩
    rw [if_pos rfl]
    refine ⟨_, drossref02_Few.spec hl, ?_⟩
    have ew : IntKind.wrap .u32 (n : Int) = n := wrap_top (k := .u32) (by simp only [top]; omega)
    cases hf : fewF (⟨#[]⟩ : ByteArray) l with
    | false => rw [if_neg (by decide)]; exact again rfl
    | true =>
      rw [if_pos rfl]
      obtain ⟨f1, f2, f3⟩ := few_true (by decide) (fun a ha => hs a ha) hf
      have hbl := bitsOf_len (n := n)
      rw [ew]
      refine ⟨_, attrset_Members.spec (by omega), _, attrset_Of.spec (by rw [List.length_map]; omega), ?_⟩
      rw [of_bits hn, if_pos rfl, if_pos rfl]
      refine ⟨by omega, _, attrset_Names.spec (by omega) f3, ?_⟩
      rcases names_good (l := l) hn with ⟨g1, g2⟩ | ⟨g1, g2⟩
      · rw [if_pos g1]
        have := names_size (n := n) f3
        refine ⟨_, attrset_Named.spec this f3, ?_⟩
        rw [g2, if_pos rfl]
        exact beq_self_eq_true _
      · rw [if_neg g1, g2]
        exact beq_self_eq_true _)
  subst h1; exact h2
theorem law {xs : List D} (hx : TyAll env.P drosslaw02_AttrsetRestored_K drosslaw02_AttrsetRestored_T xs) (hr : sbL reachBytes xs) : Ret env drosslaw02_AttrsetRestored_F xs (.lit (.bool true)) [] := by
  obtain ⟨x0, x1, h0, h1, e⟩ := drosslaw02_AttrsetRestored_args (P := env.P) tf hx
  rw [e] at hr ⊢
  have hr2 : sb reachBytes (.sl (x1.map eS)) := by simp only [sbL] at hr; exact hr.2.1
  have q1 := h0.1
  have q2 := h0.2
  have e1 : IntKind.min .u16 = 0 := rfl
  have e2 : IntKind.max .u16 = 65535 := rfl
  obtain ⟨n, rfl⟩ : ∃ n : Nat, x0 = n := ⟨x0.toNat, by omega⟩
  exact spec n x1 (by omega) h1.1 (sb_strs hr2)
end drosslaw02_AttrsetRestored
end Go.Own
