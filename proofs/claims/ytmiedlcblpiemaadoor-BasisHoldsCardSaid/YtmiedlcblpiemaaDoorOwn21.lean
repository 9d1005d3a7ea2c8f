/- An interpreter of function bodies, sound. No conditions. -/
import Derived.Test.YtmiedlcblpiemaaDoorOwn18
set_option linter.all false

namespace Go.Own
def Asi (n:Nat):Operand->Bool
 | .tmp t=>decide (t<n)
 | _=>true
theorem Atb {n:Nat} {x:Operand} (h:Asi n x=true):Fits n x:=by
 rintro t rfl;simpa [Asi] using h
def Awm (n:Nat) (o:Oper):Bool:=o.op.operands.toList.all (Asi n)&&(match o.dst with
 | some d=>decide (d<n)
 | none=>true)
theorem Azv {n:Nat} {o:Oper} (h:Awm n o=true):Aso n o:=by
 simp only [Awm,Bool.and_eq_true,List.all_eq_true] at h;refine ⟨fun x hx=>Atb (h.1 x hx),fun d hd=>?_⟩;have:=h.2;rw [hd] at this;simpa using this
def Ag8 (n:Nat):Code->Bool
 | .region _ ops _=>ops.toList.all (Awm n)
 | .seq a b=>Ag8 n a&&Ag8 n b
 | .cond x a b=>Asi n x&&Ag8 n a&&Ag8 n b
 | .block _ b=>Ag8 n b
 | .loop b=>Ag8 n b
 | _=>true
theorem Ae3 {n:Nat}:∀ (c:Code),Ag8 n c=true->Abu n c
 | .region _ ops _,h=>fun i o ho=>Azv (List.all_eq_true.1 h o (by rw [← Array.getElem?_toList] at ho;exact List.mem_of_getElem? ho))
 | .seq a b,h=>by
  simp only [Ag8,Bool.and_eq_true] at h;exact ⟨Ae3 a h.1,Ae3 b h.2⟩
 | .cond x a b,h=>by
  simp only [Ag8,Bool.and_eq_true] at h;exact ⟨Atb h.1.1,Ae3 a h.1.2,Ae3 b h.2⟩
 | .block _ b,h=>Ae3 b h
 | .loop b,h=>Ae3 b h
 | .skip,_=>trivial
 | .exit _,_=>trivial
 | .ret,_=>trivial
 | .refuse ..,_=>trivial
 | .rangeFunc ..,_=>trivial
 | .scope _,_=>trivial
 | .label _,_=>trivial
 | .goto _,_=>trivial
def resB (n:Nat):ResultVar->Bool
 | .tmp t=>decide (t<n)
 | .cell a _=>decide (a<n)
theorem Avi {n:Nat} {r:ResultVar} (h:resB n r=true):Afu n r:=by
 cases r<;>simpa [resB,Afu] using h
def Ah0 (fd : Func) : Bool := !(fd.name == "runtime.NumGoroutine") && (match fd.body with
 | some c=>Ag8 fd.ntmps c&&fd.results.toList.all (resB fd.ntmps)
 | none=>true)
theorem Atg {fd : Func} {c : Code} (hb : fd.body = some c) (h : Ah0 fd = true) : (fd.name == "runtime.NumGoroutine") = false /\ Abu fd.ntmps c /\ ∀ r ∈ fd.results.toList, Afu fd.ntmps r := by
 simp only [Ah0,hb,Bool.and_eq_true,List.all_eq_true,Bool.not_eq_true'] at h;exact ⟨h.1,Ae3 c h.2.1,fun r hr=>Avi (h.2.2 r hr)⟩
def Alg:List Nat->Bool
 | []=>true
 | x::xs=>xs.all (fun y=>!(x == y))&&Alg xs
theorem Arq:∀ {l:List Nat},Alg l=true->l.Nodup
 | [],_=>List.nodup_nil
 | x::xs,h=>by
  simp only [Alg,Bool.and_eq_true,List.all_eq_true,Bool.not_eq_true',beq_eq_false_iff_ne,ne_eq] at h;exact List.nodup_cons.2 ⟨fun hx=>h.1 x hx rfl,Arq h.2⟩
def envB (E:Env):Bool:=(List.range E.P.funcs.size).all fun f=>(Alg (E.vars f)&&(E.vars f).all fun s=>decide (s<1000000))&&((E.prim f).isSome || (match E.P.funcs[f]? with
 | some fd=>Ah0 fd
 | none=>true))
theorem Az9 {E:Env} (hm:E.P.follows .mixedOrders=true) (hp:Apx E) (hh:Apv E) (hb:envB E=true) (hv:∀ f,E.P.funcs.size<=f->E.vars f=[]):EnvOK E:=by
 have row:∀ f,f<E.P.funcs.size->(Alg (E.vars f)=true/\∀ s∈E.vars f,s<1000000)/\((E.prim f).isSome=true∨(match E.P.funcs[f]? with
   | some fd=>Ah0 fd
   | none=>true)=true):=by
  intro f hf;have:=List.all_eq_true.1 hb f (List.mem_range.2 hf);simpa only [Bool.and_eq_true,List.all_eq_true,decide_eq_true_eq,Bool.or_eq_true] using this
 have at_:∀ (f:Nat) (fd:Func),E.P.funcs[f]? = some fd->E.prim f=none->Ah0 fd=true:=by
  intro f fd hf hpr;rcases (row f (Array.getElem?_eq_some_iff.1 hf).1).2 with h | h
  ·simp [hpr] at h
  ·rw [hf] at h;exact h
 refine ⟨hm,hh,hp,fun f fd hf hpr=>?_,fun f fd c hf hpr hc=>?_,fun f=>?_⟩
 ·have:=at_ f fd hf hpr;simp only [Ah0,Bool.and_eq_true] at this;simpa using this.1
 ·have:=at_ f fd hf hpr;simp only [Ah0,hc,Bool.and_eq_true,List.all_eq_true] at this;exact ⟨Ae3 c this.2.1,fun r hr=>Avi (this.2.2 r hr)⟩
 ·rcases Nat.lt_or_ge f E.P.funcs.size with h | h
  ·exact ⟨Arq (row f h).1.1,(row f h).1.2⟩
  ·rw [hv f h];simp
end Go.Own
