/- No conditions. -/
import Derived.Test.YtmiedlcblpiemaaDoorOwn18
set_option linter.all false

namespace Go.Own
def Av5 (n:Nat):Operand->Bool
 | .tmp t=>decide (t<n)
 | _=>true
theorem Aw0 {n:Nat} {x:Operand} (h:Av5 n x=true):Fits n x:=by
 rintro t rfl;simpa [Av5] using h
def Azq (n:Nat) (o:Oper):Bool:=o.op.operands.toList.all (Av5 n)&&(match o.dst with
 | some d=>decide (d<n)
 | none=>true)
theorem Bdn {n:Nat} {o:Oper} (h:Azq n o=true):Av9 n o:=by
 simp only [Azq,Bool.and_eq_true,List.all_eq_true] at h;refine ⟨fun x hx=>Aw0 (h.1 x hx),fun d hd=>?_⟩;have:=h.2;rw [hd] at this;simpa using this
def Ahy (n:Nat):Code->Bool
 | .region _ ops _=>ops.toList.all (Azq n)
 | .seq a b=>Ahy n a&&Ahy n b
 | .cond x a b=>Av5 n x&&Ahy n a&&Ahy n b
 | .block _ b=>Ahy n b
 | .loop b=>Ahy n b
 | _=>true
theorem Aff {n:Nat}:∀ (c:Code),Ahy n c=true->Ach n c
 | .region _ ops _,h=>fun i o ho=>Bdn (List.all_eq_true.1 h o (by rw [← Array.getElem?_toList] at ho;exact List.mem_of_getElem? ho))
 | .seq a b,h=>by
  simp only [Ahy,Bool.and_eq_true] at h;exact ⟨Aff a h.1,Aff b h.2⟩
 | .cond x a b,h=>by
  simp only [Ahy,Bool.and_eq_true] at h;exact ⟨Aw0 h.1.1,Aff a h.1.2,Aff b h.2⟩
 | .block _ b,h=>Aff b h
 | .loop b,h=>Aff b h
 | .skip,_=>trivial
 | .exit _,_=>trivial
 | .ret,_=>trivial
 | .refuse ..,_=>trivial
 | .rangeFunc ..,_=>trivial
 | .scope _,_=>trivial
 | .label _,_=>trivial
 | .goto _,_=>trivial
def resB (n:Nat):ResultVar->Bool
 | .tmp t=>decide (t<n)
 | .cell a _=>decide (a<n)
theorem Ayh {n:Nat} {r:ResultVar} (h:resB n r=true):Ahj n r:=by
 cases r<;>simpa [resB,Ahj] using h
def Aiq (fd : Func) : Bool := !(fd.name == "runtime.NumGoroutine") && (match fd.body with
 | some c=>Ahy fd.ntmps c&&fd.results.toList.all (resB fd.ntmps)
 | none=>true)
theorem Aw5 {fd : Func} {c : Code} (hb : fd.body = some c) (h : Aiq fd = true) : (fd.name == "runtime.NumGoroutine") = false /\ Ach fd.ntmps c /\ ∀ r ∈ fd.results.toList, Ahj fd.ntmps r := by
 simp only [Aiq,hb,Bool.and_eq_true,List.all_eq_true,Bool.not_eq_true'] at h;exact ⟨h.1,Aff c h.2.1,fun r hr=>Ayh (h.2.2 r hr)⟩
def Anw:List Nat->Bool
 | []=>true
 | x::xs=>xs.all (fun y=>!(x == y))&&Anw xs
theorem Aua:∀ {l:List Nat},Anw l=true->l.Nodup
 | [],_=>List.nodup_nil
 | x::xs,h=>by
  simp only [Anw,Bool.and_eq_true,List.all_eq_true,Bool.not_eq_true',beq_eq_false_iff_ne,ne_eq] at h;exact List.nodup_cons.2 ⟨fun hx=>h.1 x hx rfl,Aua h.2⟩
def envB (E:Env):Bool:=(List.range E.P.funcs.size).all fun f=>(Anw (E.vars f)&&(E.vars f).all fun s=>decide (s<1000000))&&((E.prim f).isSome || (match E.P.funcs[f]? with
 | some fd=>Aiq fd
 | none=>true))
theorem Bcy {E:Env} (hm:E.P.follows .mixedOrders=true) (hp:Asj E) (hh:Ash E) (hb:envB E=true) (hv:∀ f,E.P.funcs.size<=f->E.vars f=[]):EnvOK E:=by
 have row:∀ f,f<E.P.funcs.size->(Anw (E.vars f)=true/\∀ s∈E.vars f,s<1000000)/\((E.prim f).isSome=true∨(match E.P.funcs[f]? with
   | some fd=>Aiq fd
   | none=>true)=true):=by
  intro f hf;have:=List.all_eq_true.1 hb f (List.mem_range.2 hf);simpa only [Bool.and_eq_true,List.all_eq_true,decide_eq_true_eq,Bool.or_eq_true] using this
 have at_:∀ (f:Nat) (fd:Func),E.P.funcs[f]? = some fd->E.prim f=none->Aiq fd=true:=by
  intro f fd hf hpr;rcases (row f (Array.getElem?_eq_some_iff.1 hf).1).2 with h | h
  ·simp [hpr] at h
  ·rw [hf] at h;exact h
 refine ⟨hm,hh,hp,fun f fd hf hpr=>?_,fun f fd c hf hpr hc=>?_,fun f=>?_⟩
 ·have:=at_ f fd hf hpr;simp only [Aiq,Bool.and_eq_true] at this;simpa using this.1
 ·have:=at_ f fd hf hpr;simp only [Aiq,hc,Bool.and_eq_true,List.all_eq_true] at this;exact ⟨Aff c this.2.1,fun r hr=>Ayh (this.2.2 r hr)⟩
 ·rcases Nat.lt_or_ge f E.P.funcs.size with h | h
  ·exact ⟨Aua (row f h).1.1,(row f h).1.2⟩
  ·rw [hv f h];simp
end Go.Own
