/- An interpreter of function bodies, sound. No conditions. -/
import Derived.Test.YtockohmmmlhhfadGreatDoorOwn18
import Derived.Test.YtockohmmmlhhfadGreatDoorOwn5
set_option linter.all false
namespace Go.Own
open D
section
variable {n:Nat} {R:Nat->Value} {M:Mem} {F F':Fr} {G:FT} {H:Blks} {a:Act} {w w0:World} {B:List Nat}
theorem Ap5 {E:Env} {f:Nat} {V:List Nat} {call:Nat->List D->Option (D×List D)} (hcall:Abp E call) (hgd:Good E M) {ops:Array Oper} (hfit:Af0 n ops) {Q:Exit->Act->World->Prop} {rest:List Nat}:∀ (l:List Nat) {F:Fr} {a:Act} {w:World},Post n R M B w0 F a w->opsC E f V call ops l F=some F' ->
  (∀ a' w',Post n R M B w0 F' a' w'->wpOps E.P ops Q rest a' w')->wpOps E.P ops Q (l++rest) a w
 | [],F,a,w,h,hop,hQ=>by
  simp only [opsC,zJ] at hop;subst hop;exact hQ _ _ h
 | i::l,F,a,w,h,hop,hQ=>by
  simp only [opsC] at hop;rw [List.cons_append,wpOps_cons];unfold wpOp;cases ho:ops[i]? with
  | none=>simp only [ho] at hop ⊢;exact Ap5 hcall hgd hfit l h hop hQ
  | some o=>
   simp only [ho] at hop ⊢;obtain ⟨M1,G1,h1,e1⟩:=h;cases hw:wantedD ops F o with
   | none=>simp [hw] at hop
   | some x=>
    rw [Ait h1 hfit.guard hw];cases x with
    | true=>
     simp only [hw] at hop;cases hc:opC E f V call F o with
     | none=>simp [hc] at hop
     | some F1=>
      simp only [hc] at hop;simp only [if_true];exact .inl (Aww hcall (hgd.mono e1.memle) h1 (hfit i o ho) hc fun a' w' hp=>Ap5 hcall hgd hfit l (hp.trans e1) hop hQ)
    | false=>
     simp only [hw] at hop;simp only [Bool.false_eq_true,if_false];exact Ap5 hcall hgd hfit l ((Ad6 h1 o.dst (hfit i o ho).2 (Evo.refl M1 _ w)).trans e1) hop hQ
end
end Go.Own

namespace Go.Own
def Ave (n:Nat):Operand->Bool
 | .tmp t=>decide (t<n)
 | _=>true
theorem Aw7 {n:Nat} {x:Operand} (h:Ave n x=true):Fits n x:=by
 rintro t rfl;simpa [Ave] using h
def Bad (n:Nat) (o:Oper):Bool:=o.op.operands.toList.all (Ave n)&&(match o.dst with
 | some d=>decide (d<n)
 | none=>true)
theorem Bem {n:Nat} {o:Oper} (h:Bad n o=true):Avj n o:=by
 simp only [Bad,Bool.and_eq_true,List.all_eq_true] at h;refine ⟨fun x hx=>Aw7 (h.1 x hx),fun d hd=>?_⟩;have:=h.2;rw [hd] at this;simpa using this
def Ahu (n:Nat):Code->Bool
 | .region _ ops _=>ops.toList.all (Bad n)
 | .seq a b=>Ahu n a&&Ahu n b
 | .cond x a b=>Ave n x&&Ahu n a&&Ahu n b
 | .block _ b=>Ahu n b
 | .loop b=>Ahu n b
 | _=>true
theorem Af2 {n:Nat}:∀ (c:Code),Ahu n c=true->Acb n c
 | .region _ ops _,h=>fun i o ho=>Bem (List.all_eq_true.1 h o (by rw [← Array.getElem?_toList] at ho;exact List.mem_of_getElem? ho))
 | .seq a b,h=>by
  simp only [Ahu,Bool.and_eq_true] at h;exact ⟨Af2 a h.1,Af2 b h.2⟩
 | .cond x a b,h=>by
  simp only [Ahu,Bool.and_eq_true] at h;exact ⟨Aw7 h.1.1,Af2 a h.1.2,Af2 b h.2⟩
 | .block _ b,h=>Af2 b h
 | .loop b,h=>Af2 b h
 | .skip,_=>trivial
 | .exit _,_=>trivial
 | .ret,_=>trivial
 | .refuse ..,_=>trivial
 | .rangeFunc ..,_=>trivial
 | .scope _,_=>trivial
 | .label _,_=>trivial
 | .goto _,_=>trivial
def resB (n:Nat):ResultVar->Bool
 | .tmp t=>decide (t<n)
 | .cell a _=>decide (a<n)
theorem Az1 {n:Nat} {r:ResultVar} (h:resB n r=true):Agh n r:=by
 cases r<;>simpa [resB,Agh] using h
def Ahw (fd : Func) : Bool := !(fd.name == "runtime.NumGoroutine") && (match fd.body with
 | some c=>Ahu fd.ntmps c&&fd.results.toList.all (resB fd.ntmps)
 | none=>true)
theorem Aqd {fd : Func} {c : Code} (hb : fd.body = some c) (h : Ahw fd = true) : (fd.name == "runtime.NumGoroutine") = false /\ Acb fd.ntmps c /\ ∀ r ∈ fd.results.toList, Agh fd.ntmps r := by
 simp only [Ahw,hb,Bool.and_eq_true,List.all_eq_true,Bool.not_eq_true'] at h;exact ⟨h.1,Af2 c h.2.1,fun r hr=>Az1 (h.2.2 r hr)⟩
def Ao3:List Nat->Bool
 | []=>true
 | x::xs=>xs.all (fun y=>!(x == y))&&Ao3 xs
theorem Auj:∀ {l:List Nat},Ao3 l=true->l.Nodup
 | [],_=>List.nodup_nil
 | x::xs,h=>by
  simp only [Ao3,Bool.and_eq_true,List.all_eq_true,Bool.not_eq_true',beq_eq_false_iff_ne,ne_eq] at h;exact List.nodup_cons.2 ⟨fun hx=>h.1 x hx rfl,Auj h.2⟩
def envB (E:Env):Bool:=(List.range E.P.funcs.size).all fun f=>(Ao3 (E.vars f)&&(E.vars f).all fun s=>decide (s<1000000))&&((E.prim f).isSome || (match E.P.funcs[f]? with
 | some fd=>Ahw fd
 | none=>true))
theorem Bdw {E:Env} (hm:E.P.follows .mixedOrders=true) (hp:Asn E) (hh:Asj E) (hb:envB E=true) (hv:∀ f,E.P.funcs.size<=f->E.vars f=[]):EnvOK E:=by
 have row:∀ f,f<E.P.funcs.size->(Ao3 (E.vars f)=true/\∀ s∈E.vars f,s<1000000)/\((E.prim f).isSome=true∨(match E.P.funcs[f]? with
   | some fd=>Ahw fd
   | none=>true)=true):=by
  intro f hf;have:=List.all_eq_true.1 hb f (List.mem_range.2 hf);simpa only [Bool.and_eq_true,List.all_eq_true,decide_eq_true_eq,Bool.or_eq_true] using this
 have at_:∀ (f:Nat) (fd:Func),E.P.funcs[f]? = some fd->E.prim f=none->Ahw fd=true:=by
  intro f fd hf hpr;rcases (row f (Array.getElem?_eq_some_iff.1 hf).1).2 with h | h
  ·simp [hpr] at h
  ·rw [hf] at h;exact h
 refine ⟨hm,hh,hp,fun f fd hf hpr=>?_,fun f fd c hf hpr hc=>?_,fun f=>?_⟩
 ·have:=at_ f fd hf hpr;simp only [Ahw,Bool.and_eq_true] at this;simpa using this.1
 ·have:=at_ f fd hf hpr;simp only [Ahw,hc,Bool.and_eq_true,List.all_eq_true] at this;exact ⟨Af2 c this.2.1,fun r hr=>Az1 (this.2.2 r hr)⟩
 ·rcases Nat.lt_or_ge f E.P.funcs.size with h | h
  ·exact ⟨Auj (row f h).1.1,(row f h).1.2⟩
  ·rw [hv f h];simp
end Go.Own
