/- An interpreter of function bodies, sound. No conditions. -/
import Derived.Test.YtmiedlcblpiemaaDoorOwn18
set_option linter.all false

namespace Go.Own
def Av1 (n:Nat):Operand->Bool
 | .tmp t=>decide (t<n)
 | _=>true
theorem Avw {n:Nat} {x:Operand} (h:Av1 n x=true):Fits n x:=by
 rintro t rfl;simpa [Av1] using h
def Azm (n:Nat) (o:Oper):Bool:=o.op.operands.toList.all (Av1 n)&&(match o.dst with
 | some d=>decide (d<n)
 | none=>true)
theorem Bdj {n:Nat} {o:Oper} (h:Azm n o=true):Av5 n o:=by
 simp only [Azm,Bool.and_eq_true,List.all_eq_true] at h;refine ⟨fun x hx=>Avw (h.1 x hx),fun d hd=>?_⟩;have:=h.2;rw [hd] at this;simpa using this
def Ahv (n:Nat):Code->Bool
 | .region _ ops _=>ops.toList.all (Azm n)
 | .seq a b=>Ahv n a&&Ahv n b
 | .cond x a b=>Av1 n x&&Ahv n a&&Ahv n b
 | .block _ b=>Ahv n b
 | .loop b=>Ahv n b
 | _=>true
theorem Afb {n:Nat}:∀ (c:Code),Ahv n c=true->Ace n c
 | .region _ ops _,h=>fun i o ho=>Bdj (List.all_eq_true.1 h o (by rw [← Array.getElem?_toList] at ho;exact List.mem_of_getElem? ho))
 | .seq a b,h=>by
  simp only [Ahv,Bool.and_eq_true] at h;exact ⟨Afb a h.1,Afb b h.2⟩
 | .cond x a b,h=>by
  simp only [Ahv,Bool.and_eq_true] at h;exact ⟨Avw h.1.1,Afb a h.1.2,Afb b h.2⟩
 | .block _ b,h=>Afb b h
 | .loop b,h=>Afb b h
 | .skip,_=>trivial
 | .exit _,_=>trivial
 | .ret,_=>trivial
 | .refuse ..,_=>trivial
 | .rangeFunc ..,_=>trivial
 | .scope _,_=>trivial
 | .label _,_=>trivial
 | .goto _,_=>trivial
def resB (n:Nat):ResultVar->Bool
 | .tmp t=>decide (t<n)
 | .cell a _=>decide (a<n)
theorem Ayd {n:Nat} {r:ResultVar} (h:resB n r=true):Ahg n r:=by
 cases r<;>simpa [resB,Ahg] using h
def Aio (fd : Func) : Bool := !(fd.name == "runtime.NumGoroutine") && (match fd.body with
 | some c=>Ahv fd.ntmps c&&fd.results.toList.all (resB fd.ntmps)
 | none=>true)
theorem Aw1 {fd : Func} {c : Code} (hb : fd.body = some c) (h : Aio fd = true) : (fd.name == "runtime.NumGoroutine") = false /\ Ace fd.ntmps c /\ ∀ r ∈ fd.results.toList, Ahg fd.ntmps r := by
 simp only [Aio,hb,Bool.and_eq_true,List.all_eq_true,Bool.not_eq_true'] at h;exact ⟨h.1,Afb c h.2.1,fun r hr=>Ayd (h.2.2 r hr)⟩
def Anq:List Nat->Bool
 | []=>true
 | x::xs=>xs.all (fun y=>!(x == y))&&Anq xs
theorem Au6:∀ {l:List Nat},Anq l=true->l.Nodup
 | [],_=>List.nodup_nil
 | x::xs,h=>by
  simp only [Anq,Bool.and_eq_true,List.all_eq_true,Bool.not_eq_true',beq_eq_false_iff_ne,ne_eq] at h;exact List.nodup_cons.2 ⟨fun hx=>h.1 x hx rfl,Au6 h.2⟩
def envB (E:Env):Bool:=(List.range E.P.funcs.size).all fun f=>(Anq (E.vars f)&&(E.vars f).all fun s=>decide (s<1000000))&&((E.prim f).isSome || (match E.P.funcs[f]? with
 | some fd=>Aio fd
 | none=>true))
theorem Bcu {E:Env} (hm:E.P.follows .mixedOrders=true) (hp:Ase E) (hh:Asb E) (hb:envB E=true) (hv:∀ f,E.P.funcs.size<=f->E.vars f=[]):EnvOK E:=by
 have row:∀ f,f<E.P.funcs.size->(Anq (E.vars f)=true/\∀ s∈E.vars f,s<1000000)/\((E.prim f).isSome=true∨(match E.P.funcs[f]? with
   | some fd=>Aio fd
   | none=>true)=true):=by
  intro f hf;have:=List.all_eq_true.1 hb f (List.mem_range.2 hf);simpa only [Bool.and_eq_true,List.all_eq_true,decide_eq_true_eq,Bool.or_eq_true] using this
 have at_:∀ (f:Nat) (fd:Func),E.P.funcs[f]? = some fd->E.prim f=none->Aio fd=true:=by
  intro f fd hf hpr;rcases (row f (Array.getElem?_eq_some_iff.1 hf).1).2 with h | h
  ·simp [hpr] at h
  ·rw [hf] at h;exact h
 refine ⟨hm,hh,hp,fun f fd hf hpr=>?_,fun f fd c hf hpr hc=>?_,fun f=>?_⟩
 ·have:=at_ f fd hf hpr;simp only [Aio,Bool.and_eq_true] at this;simpa using this.1
 ·have:=at_ f fd hf hpr;simp only [Aio,hc,Bool.and_eq_true,List.all_eq_true] at this;exact ⟨Afb c this.2.1,fun r hr=>Ayd (this.2.2 r hr)⟩
 ·rcases Nat.lt_or_ge f E.P.funcs.size with h | h
  ·exact ⟨Au6 (row f h).1.1,(row f h).1.2⟩
  ·rw [hv f h];simp
end Go.Own
