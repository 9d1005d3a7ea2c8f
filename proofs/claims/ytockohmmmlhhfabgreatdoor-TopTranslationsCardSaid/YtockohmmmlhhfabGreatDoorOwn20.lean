/- An interpreter of function bodies, sound. No conditions. -/
import Derived.Test.YtockohmmmlhhfabGreatDoorOwn18
import Derived.Test.YtockohmmmlhhfabGreatDoorOwn5
set_option linter.all false
namespace Go.Own
open D
section
variable {n:Nat} {R:Nat->Value} {M:Mem} {F F':Fr} {G:FT} {H:Blks} {a:Act} {w w0:World} {B:List Nat}
theorem Anv {E:Env} {f:Nat} {V:List Nat} {call:Nat->List D->Option (D×List D)} (hcall:Abq E call) (hgd:Good E M) {ops:Array Oper} (hfit:Aeq n ops) {Q:Exit->Act->World->Prop} {rest:List Nat}:∀ (l:List Nat) {F:Fr} {a:Act} {w:World},Post n R M B w0 F a w->opsC E f V call ops l F=some F' ->
  (∀ a' w',Post n R M B w0 F' a' w'->wpOps E.P ops Q rest a' w')->wpOps E.P ops Q (l++rest) a w
 | [],F,a,w,h,hop,hQ=>by
  simp only [opsC,zJ] at hop;subst hop;exact hQ _ _ h
 | i::l,F,a,w,h,hop,hQ=>by
  simp only [opsC] at hop;rw [List.cons_append,wpOps_cons];unfold wpOp;cases ho:ops[i]? with
  | none=>simp only [ho] at hop ⊢;exact Anv hcall hgd hfit l h hop hQ
  | some o=>
   simp only [ho] at hop ⊢;obtain ⟨M1,G1,h1,e1⟩:=h;cases hw:wantedD ops F o with
   | none=>simp [hw] at hop
   | some x=>
    rw [Ai4 h1 hfit.guard hw];cases x with
    | true=>
     simp only [hw] at hop;cases hc:opC E f V call F o with
     | none=>simp [hc] at hop
     | some F1=>
      simp only [hc] at hop;simp only [if_true];exact .inl (Av0 hcall (hgd.mono e1.memle) h1 (hfit i o ho) hc fun a' w' hp=>Anv hcall hgd hfit l (hp.trans e1) hop hQ)
    | false=>
     simp only [hw] at hop;simp only [Bool.false_eq_true,if_false];exact Anv hcall hgd hfit l ((Ad1 h1 o.dst (hfit i o ho).2 (Evo.refl M1 _ w)).trans e1) hop hQ
end
end Go.Own

namespace Go.Own
def Ato (n:Nat):Operand->Bool
 | .tmp t=>decide (t<n)
 | _=>true
theorem Aui {n:Nat} {x:Operand} (h:Ato n x=true):Fits n x:=by
 rintro t rfl;simpa [Ato] using h
def Axy (n:Nat) (o:Oper):Bool:=o.op.operands.toList.all (Ato n)&&(match o.dst with
 | some d=>decide (d<n)
 | none=>true)
theorem Bb8 {n:Nat} {o:Oper} (h:Axy n o=true):Atw n o:=by
 simp only [Axy,Bool.and_eq_true,List.all_eq_true] at h;refine ⟨fun x hx=>Aui (h.1 x hx),fun d hd=>?_⟩;have:=h.2;rw [hd] at this;simpa using this
def Ah4 (n:Nat):Code->Bool
 | .region _ ops _=>ops.toList.all (Axy n)
 | .seq a b=>Ah4 n a&&Ah4 n b
 | .cond x a b=>Ato n x&&Ah4 n a&&Ah4 n b
 | .block _ b=>Ah4 n b
 | .loop b=>Ah4 n b
 | _=>true
theorem Aes {n:Nat}:∀ (c:Code),Ah4 n c=true->Ac9 n c
 | .region _ ops _,h=>fun i o ho=>Bb8 (List.all_eq_true.1 h o (by rw [← Array.getElem?_toList] at ho;exact List.mem_of_getElem? ho))
 | .seq a b,h=>by
  simp only [Ah4,Bool.and_eq_true] at h;exact ⟨Aes a h.1,Aes b h.2⟩
 | .cond x a b,h=>by
  simp only [Ah4,Bool.and_eq_true] at h;exact ⟨Aui h.1.1,Aes a h.1.2,Aes b h.2⟩
 | .block _ b,h=>Aes b h
 | .loop b,h=>Aes b h
 | .skip,_=>trivial
 | .exit _,_=>trivial
 | .ret,_=>trivial
 | .refuse ..,_=>trivial
 | .rangeFunc ..,_=>trivial
 | .scope _,_=>trivial
 | .label _,_=>trivial
 | .goto _,_=>trivial
def resB (n:Nat):ResultVar->Bool
 | .tmp t=>decide (t<n)
 | .cell a _=>decide (a<n)
theorem Aws {n:Nat} {r:ResultVar} (h:resB n r=true):Ag3 n r:=by
 cases r<;>simpa [resB,Ag3] using h
def Ah6 (fd : Func) : Bool := !(fd.name == "runtime.NumGoroutine") && (match fd.body with
 | some c=>Ah4 fd.ntmps c&&fd.results.toList.all (resB fd.ntmps)
 | none=>true)
theorem Ap2 {fd : Func} {c : Code} (hb : fd.body = some c) (h : Ah6 fd = true) : (fd.name == "runtime.NumGoroutine") = false /\ Ac9 fd.ntmps c /\ ∀ r ∈ fd.results.toList, Ag3 fd.ntmps r := by
 simp only [Ah6,hb,Bool.and_eq_true,List.all_eq_true,Bool.not_eq_true'] at h;exact ⟨h.1,Aes c h.2.1,fun r hr=>Aws (h.2.2 r hr)⟩
def Amp:List Nat->Bool
 | []=>true
 | x::xs=>xs.all (fun y=>!(x == y))&&Amp xs
theorem Asz:∀ {l:List Nat},Amp l=true->l.Nodup
 | [],_=>List.nodup_nil
 | x::xs,h=>by
  simp only [Amp,Bool.and_eq_true,List.all_eq_true,Bool.not_eq_true',beq_eq_false_iff_ne,ne_eq] at h;exact List.nodup_cons.2 ⟨fun hx=>h.1 x hx rfl,Asz h.2⟩
def envB (E:Env):Bool:=(List.range E.P.funcs.size).all fun f=>(Amp (E.vars f)&&(E.vars f).all fun s=>decide (s<1000000))&&((E.prim f).isSome || (match E.P.funcs[f]? with
 | some fd=>Ah6 fd
 | none=>true))
theorem Bar {E:Env} (hm:E.P.follows .mixedOrders=true) (hp:Ar9 E) (hh:Ar7 E) (hb:envB E=true) (hv:∀ f,E.P.funcs.size<=f->E.vars f=[]):EnvOK E:=by
 have row:∀ f,f<E.P.funcs.size->(Amp (E.vars f)=true/\∀ s∈E.vars f,s<1000000)/\((E.prim f).isSome=true∨(match E.P.funcs[f]? with
   | some fd=>Ah6 fd
   | none=>true)=true):=by
  intro f hf;have:=List.all_eq_true.1 hb f (List.mem_range.2 hf);simpa only [Bool.and_eq_true,List.all_eq_true,decide_eq_true_eq,Bool.or_eq_true] using this
 have at_:∀ (f:Nat) (fd:Func),E.P.funcs[f]? = some fd->E.prim f=none->Ah6 fd=true:=by
  intro f fd hf hpr;rcases (row f (Array.getElem?_eq_some_iff.1 hf).1).2 with h | h
  ·simp [hpr] at h
  ·rw [hf] at h;exact h
 refine ⟨hm,hh,hp,fun f fd hf hpr=>?_,fun f fd c hf hpr hc=>?_,fun f=>?_⟩
 ·have:=at_ f fd hf hpr;simp only [Ah6,Bool.and_eq_true] at this;simpa using this.1
 ·have:=at_ f fd hf hpr;simp only [Ah6,hc,Bool.and_eq_true,List.all_eq_true] at this;exact ⟨Aes c this.2.1,fun r hr=>Aws (this.2.2 r hr)⟩
 ·rcases Nat.lt_or_ge f E.P.funcs.size with h | h
  ·exact ⟨Asz (row f h).1.1,(row f h).1.2⟩
  ·rw [hv f h];simp
end Go.Own
