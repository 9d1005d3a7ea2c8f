/- An interpreter of function bodies, sound. No conditions. -/
import Derived.Test.YtockohmmmlhhfadGreatDoorOwn18
import Derived.Test.YtockohmmmlhhfadGreatDoorOwn5
set_option linter.all false
namespace Go.Own
open D
section
variable {n:Nat} {R:Nat->Value} {M:Mem} {F F':Fr} {G:FT} {H:Blks} {a:Act} {w w0:World} {B:List Nat}
theorem Apc {E:Env} {f:Nat} {V:List Nat} {call:Nat->List D->Option (D×List D)} (hcall:Abp E call) (hgd:Good E M) {ops:Array Oper} (hfit:Af1 n ops) {Q:Exit->Act->World->Prop} {rest:List Nat}:∀ (l:List Nat) {F:Fr} {a:Act} {w:World},Post n R M B w0 F a w->opsC E f V call ops l F=some F' ->
  (∀ a' w',Post n R M B w0 F' a' w'->wpOps E.P ops Q rest a' w')->wpOps E.P ops Q (l++rest) a w
 | [],F,a,w,h,hop,hQ=>by
  simp only [opsC,zJ] at hop;subst hop;exact hQ _ _ h
 | i::l,F,a,w,h,hop,hQ=>by
  simp only [opsC] at hop;rw [List.cons_append,wpOps_cons];unfold wpOp;cases ho:ops[i]? with
  | none=>simp only [ho] at hop ⊢;exact Apc hcall hgd hfit l h hop hQ
  | some o=>
   simp only [ho] at hop ⊢;obtain ⟨M1,G1,h1,e1⟩:=h;cases hw:wantedD ops F o with
   | none=>simp [hw] at hop
   | some x=>
    rw [Aiw h1 hfit.guard hw];cases x with
    | true=>
     simp only [hw] at hop;cases hc:opC E f V call F o with
     | none=>simp [hc] at hop
     | some F1=>
      simp only [hc] at hop;simp only [if_true];exact .inl (Ax3 hcall (hgd.mono e1.memle) h1 (hfit i o ho) hc fun a' w' hp=>Apc hcall hgd hfit l (hp.trans e1) hop hQ)
    | false=>
     simp only [hw] at hop;simp only [Bool.false_eq_true,if_false];exact Apc hcall hgd hfit l ((Ad7 h1 o.dst (hfit i o ho).2 (Evo.refl M1 _ w)).trans e1) hop hQ
end
end Go.Own

namespace Go.Own
def Avl (n:Nat):Operand->Bool
 | .tmp t=>decide (t<n)
 | _=>true
theorem Awe {n:Nat} {x:Operand} (h:Avl n x=true):Fits n x:=by
 rintro t rfl;simpa [Avl] using h
def Bak (n:Nat) (o:Oper):Bool:=o.op.operands.toList.all (Avl n)&&(match o.dst with
 | some d=>decide (d<n)
 | none=>true)
theorem Bet {n:Nat} {o:Oper} (h:Bak n o=true):Avq n o:=by
 simp only [Bak,Bool.and_eq_true,List.all_eq_true] at h;refine ⟨fun x hx=>Awe (h.1 x hx),fun d hd=>?_⟩;have:=h.2;rw [hd] at this;simpa using this
def Ahx (n:Nat):Code->Bool
 | .region _ ops _=>ops.toList.all (Bak n)
 | .seq a b=>Ahx n a&&Ahx n b
 | .cond x a b=>Avl n x&&Ahx n a&&Ahx n b
 | .block _ b=>Ahx n b
 | .loop b=>Ahx n b
 | _=>true
theorem Af3 {n:Nat}:∀ (c:Code),Ahx n c=true->Acd n c
 | .region _ ops _,h=>fun i o ho=>Bet (List.all_eq_true.1 h o (by rw [← Array.getElem?_toList] at ho;exact List.mem_of_getElem? ho))
 | .seq a b,h=>by
  simp only [Ahx,Bool.and_eq_true] at h;exact ⟨Af3 a h.1,Af3 b h.2⟩
 | .cond x a b,h=>by
  simp only [Ahx,Bool.and_eq_true] at h;exact ⟨Awe h.1.1,Af3 a h.1.2,Af3 b h.2⟩
 | .block _ b,h=>Af3 b h
 | .loop b,h=>Af3 b h
 | .skip,_=>trivial
 | .exit _,_=>trivial
 | .ret,_=>trivial
 | .refuse ..,_=>trivial
 | .rangeFunc ..,_=>trivial
 | .scope _,_=>trivial
 | .label _,_=>trivial
 | .goto _,_=>trivial
def resB (n:Nat):ResultVar->Bool
 | .tmp t=>decide (t<n)
 | .cell a _=>decide (a<n)
theorem Az8 {n:Nat} {r:ResultVar} (h:resB n r=true):Agk n r:=by
 cases r<;>simpa [resB,Agk] using h
def Ahz (fd : Func) : Bool := !(fd.name == "runtime.NumGoroutine") && (match fd.body with
 | some c=>Ahx fd.ntmps c&&fd.results.toList.all (resB fd.ntmps)
 | none=>true)
theorem Aqk {fd : Func} {c : Code} (hb : fd.body = some c) (h : Ahz fd = true) : (fd.name == "runtime.NumGoroutine") = false /\ Acd fd.ntmps c /\ ∀ r ∈ fd.results.toList, Agk fd.ntmps r := by
 simp only [Ahz,hb,Bool.and_eq_true,List.all_eq_true,Bool.not_eq_true'] at h;exact ⟨h.1,Af3 c h.2.1,fun r hr=>Az8 (h.2.2 r hr)⟩
def Ao9:List Nat->Bool
 | []=>true
 | x::xs=>xs.all (fun y=>!(x == y))&&Ao9 xs
theorem Auq:∀ {l:List Nat},Ao9 l=true->l.Nodup
 | [],_=>List.nodup_nil
 | x::xs,h=>by
  simp only [Ao9,Bool.and_eq_true,List.all_eq_true,Bool.not_eq_true',beq_eq_false_iff_ne,ne_eq] at h;exact List.nodup_cons.2 ⟨fun hx=>h.1 x hx rfl,Auq h.2⟩
def envB (E:Env):Bool:=(List.range E.P.funcs.size).all fun f=>(Ao9 (E.vars f)&&(E.vars f).all fun s=>decide (s<1000000))&&((E.prim f).isSome || (match E.P.funcs[f]? with
 | some fd=>Ahz fd
 | none=>true))
theorem Be3 {E:Env} (hm:E.P.follows .mixedOrders=true) (hp:Asu E) (hh:Asr E) (hb:envB E=true) (hv:∀ f,E.P.funcs.size<=f->E.vars f=[]):EnvOK E:=by
 have row:∀ f,f<E.P.funcs.size->(Ao9 (E.vars f)=true/\∀ s∈E.vars f,s<1000000)/\((E.prim f).isSome=true∨(match E.P.funcs[f]? with
   | some fd=>Ahz fd
   | none=>true)=true):=by
  intro f hf;have:=List.all_eq_true.1 hb f (List.mem_range.2 hf);simpa only [Bool.and_eq_true,List.all_eq_true,decide_eq_true_eq,Bool.or_eq_true] using this
 have at_:∀ (f:Nat) (fd:Func),E.P.funcs[f]? = some fd->E.prim f=none->Ahz fd=true:=by
  intro f fd hf hpr;rcases (row f (Array.getElem?_eq_some_iff.1 hf).1).2 with h | h
  ·simp [hpr] at h
  ·rw [hf] at h;exact h
 refine ⟨hm,hh,hp,fun f fd hf hpr=>?_,fun f fd c hf hpr hc=>?_,fun f=>?_⟩
 ·have:=at_ f fd hf hpr;simp only [Ahz,Bool.and_eq_true] at this;simpa using this.1
 ·have:=at_ f fd hf hpr;simp only [Ahz,hc,Bool.and_eq_true,List.all_eq_true] at this;exact ⟨Af3 c this.2.1,fun r hr=>Az8 (this.2.2 r hr)⟩
 ·rcases Nat.lt_or_ge f E.P.funcs.size with h | h
  ·exact ⟨Auq (row f h).1.1,(row f h).1.2⟩
  ·rw [hv f h];simp
end Go.Own
