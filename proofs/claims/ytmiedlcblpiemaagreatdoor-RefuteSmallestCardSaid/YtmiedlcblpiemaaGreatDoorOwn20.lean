/- An interpreter of function bodies, sound. No conditions. -/
import Derived.Test.YtmiedlcblpiemaaGreatDoorOwn18
import Derived.Test.YtmiedlcblpiemaaGreatDoorOwn5
set_option linter.all false
namespace Go.Own
open D
section
variable{n:Nat}{R:Nat->Value}{M:Mem}{F F':Fr}{G:FT}{H:Blks}{a:Act}{w w0:World}{B:List Nat}
theorem Apn{E:Env}{f:Nat}{V:List Nat}{call:Nat->List D->Option (D×List D)}(hcall:Acq E call)(hgd:Good E M){ops:Array Oper}(hfit:Afa n ops){Q:Exit->Act->World->Prop}{rest:List Nat}:∀(l:List Nat){F:Fr}{a:Act}{w:World},Post n R M B w0 F a w->opsC E f V call ops l F=some F' ->
  (∀a' w',Post n R M B w0 F' a' w'->wpOps E.P ops Q rest a' w')->wpOps E.P ops Q (l++rest) a w
 |[],F,a,w,h,hop,hQ=>by
  simp only[opsC,zJ]at hop;subst hop;exact hQ _ _ h
 |i::l,F,a,w,h,hop,hQ=>by
  simp only[opsC]at hop;rw[List.cons_append,wpOps_cons];unfold wpOp;cases ho:ops[i]? with
  |none=>simp only[ho]at hop⊢;exact Apn hcall hgd hfit l h hop hQ
  |some o=>
   simp only[ho]at hop⊢;obtain⟨M1,G1,h1,e1⟩:=h;cases hw:wantedD ops F o with
   |none=>simp[hw]at hop
   |some x=>
    rw[Anc h1 hfit.guard hw];cases x with
    |true=>
     simp only[hw]at hop;cases hc:opC E f V call F o with
     |none=>simp[hc]at hop
     |some F1=>
      simp only[hc]at hop;simp only[if_true];exact .inl (Ayn hcall (hgd.mono e1.memle) h1 (hfit i o ho) hc fun a' w' hp=>Apn hcall hgd hfit l (hp.trans e1) hop hQ)
    |false=>
     simp only[hw]at hop;simp only[Bool.false_eq_true,if_false];exact Apn hcall hgd hfit l ((Adn h1 o.dst (hfit i o ho).2 (Evo.refl M1 _ w)).trans e1) hop hQ
end
end Go.Own
