/- No conditions. -/
import Derived.Test.YtbmbbljdpnpmeaaGreatDoorOwn18
set_option linter.all false

namespace Go.Own
def Axe (n:Nat):Operand->Bool
 | .tmp t=>decide (t<n)
 | _=>true
theorem Aym {n:Nat} {x:Operand} (h:Axe n x=true):Fits n x:=by
 rintro t rfl;simpa [Axe] using h
def Bd4 (n:Nat) (o:Oper):Bool:=o.op.operands.toList.all (Axe n)&&(match o.dst with
 | some d=>decide (d<n)
 | none=>true)
theorem Bhu {n:Nat} {o:Oper} (h:Bd4 n o=true):Axl n o:=by
 simp only [Bd4,Bool.and_eq_true,List.all_eq_true] at h;refine ⟨fun x hx=>Aym (h.1 x hx),fun d hd=>?_⟩;have:=h.2;rw [hd] at this;simpa using this
def Ait (n:Nat):Code->Bool
 | .region _ ops _=>ops.toList.all (Bd4 n)
 | .seq a b=>Ait n a&&Ait n b
 | .cond x a b=>Axe n x&&Ait n a&&Ait n b
 | .block _ b=>Ait n b
 | .loop b=>Ait n b
 | _=>true
theorem Afj {n:Nat}:∀ (c:Code),Ait n c=true->Acr n c
 | .region _ ops _,h=>fun i o ho=>Bhu (List.all_eq_true.1 h o (by rw [← Array.getElem?_toList] at ho;exact List.mem_of_getElem? ho))
 | .seq a b,h=>by
  simp only [Ait,Bool.and_eq_true] at h;exact ⟨Afj a h.1,Afj b h.2⟩
 | .cond x a b,h=>by
  simp only [Ait,Bool.and_eq_true] at h;exact ⟨Aym h.1.1,Afj a h.1.2,Afj b h.2⟩
 | .block _ b,h=>Afj b h
 | .loop b,h=>Afj b h
 | .skip,_=>trivial
 | .exit _,_=>trivial
 | .ret,_=>trivial
 | .refuse ..,_=>trivial
 | .rangeFunc ..,_=>trivial
 | .scope _,_=>trivial
 | .label _,_=>trivial
 | .goto _,_=>trivial
def resB (n:Nat):ResultVar->Bool
 | .tmp t=>decide (t<n)
 | .cell a _=>decide (a<n)
theorem Bbm {n:Nat} {r:ResultVar} (h:resB n r=true):Aia n r:=by
 cases r<;>simpa [resB,Aia] using h
def Ajo (fd : Func) : Bool := !(fd.name == "runtime.NumGoroutine") && (match fd.body with
 | some c=>Ait fd.ntmps c&&fd.results.toList.all (resB fd.ntmps)
 | none=>true)
theorem Ays {fd : Func} {c : Code} (hb : fd.body = some c) (h : Ajo fd = true) : (fd.name == "runtime.NumGoroutine") = false /\ Acr fd.ntmps c /\ ∀ r ∈ fd.results.toList, Aia fd.ntmps r := by
 simp only [Ajo,hb,Bool.and_eq_true,List.all_eq_true,Bool.not_eq_true'] at h;exact ⟨h.1,Afj c h.2.1,fun r hr=>Bbm (h.2.2 r hr)⟩
def Ap6:List Nat->Bool
 | []=>true
 | x::xs=>xs.all (fun y=>!(x == y))&&Ap6 xs
theorem Awi:∀ {l:List Nat},Ap6 l=true->l.Nodup
 | [],_=>List.nodup_nil
 | x::xs,h=>by
  simp only [Ap6,Bool.and_eq_true,List.all_eq_true,Bool.not_eq_true',beq_eq_false_iff_ne,ne_eq] at h;exact List.nodup_cons.2 ⟨fun hx=>h.1 x hx rfl,Awi h.2⟩
def envB (E:Env):Bool:=(List.range E.P.funcs.size).all fun f=>(Ap6 (E.vars f)&&(E.vars f).all fun s=>decide (s<1000000))&&((E.prim f).isSome || (match E.P.funcs[f]? with
 | some fd=>Ajo fd
 | none=>true))
theorem Bgy {E:Env} (hm:E.P.follows .mixedOrders=true) (hp:Au8 E) (hh:Au6 E) (hb:envB E=true) (hv:∀ f,E.P.funcs.size<=f->E.vars f=[]):EnvOK E:=by
 have row:∀ f,f<E.P.funcs.size->(Ap6 (E.vars f)=true/\∀ s∈E.vars f,s<1000000)/\((E.prim f).isSome=true∨(match E.P.funcs[f]? with
   | some fd=>Ajo fd
   | none=>true)=true):=by
  intro f hf;have:=List.all_eq_true.1 hb f (List.mem_range.2 hf);simpa only [Bool.and_eq_true,List.all_eq_true,decide_eq_true_eq,Bool.or_eq_true] using this
 have at_:∀ (f:Nat) (fd:Func),E.P.funcs[f]? = some fd->E.prim f=none->Ajo fd=true:=by
  intro f fd hf hpr;rcases (row f (Array.getElem?_eq_some_iff.1 hf).1).2 with h | h
  ·simp [hpr] at h
  ·rw [hf] at h;exact h
 refine ⟨hm,hh,hp,fun f fd hf hpr=>?_,fun f fd c hf hpr hc=>?_,fun f=>?_⟩
 ·have:=at_ f fd hf hpr;simp only [Ajo,Bool.and_eq_true] at this;simpa using this.1
 ·have:=at_ f fd hf hpr;simp only [Ajo,hc,Bool.and_eq_true,List.all_eq_true] at this;exact ⟨Afj c this.2.1,fun r hr=>Bbm (this.2.2 r hr)⟩
 ·rcases Nat.lt_or_ge f E.P.funcs.size with h | h
  ·exact ⟨Awi (row f h).1.1,(row f h).1.2⟩
  ·rw [hv f h];simp
end Go.Own
