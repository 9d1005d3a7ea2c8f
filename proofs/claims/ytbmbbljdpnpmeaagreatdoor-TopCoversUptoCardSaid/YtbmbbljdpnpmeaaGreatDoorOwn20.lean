/- No conditions. -/
import Derived.Test.YtbmbbljdpnpmeaaGreatDoorOwn18
set_option linter.all false

namespace Go.Own
def Aw9 (n:Nat):Operand->Bool
 | .tmp t=>decide (t<n)
 | _=>true
theorem Ax8 {n:Nat} {x:Operand} (h:Aw9 n x=true):Fits n x:=by
 rintro t rfl;simpa [Aw9] using h
def Bbj (n:Nat) (o:Oper):Bool:=o.op.operands.toList.all (Aw9 n)&&(match o.dst with
 | some d=>decide (d<n)
 | none=>true)
theorem Bg1 {n:Nat} {o:Oper} (h:Bbj n o=true):Awf n o:=by
 simp only [Bbj,Bool.and_eq_true,List.all_eq_true] at h;refine ⟨fun x hx=>Ax8 (h.1 x hx),fun d hd=>?_⟩;have:=h.2;rw [hd] at this;simpa using this
def Aid (n:Nat):Code->Bool
 | .region _ ops _=>ops.toList.all (Bbj n)
 | .seq a b=>Aid n a&&Aid n b
 | .cond x a b=>Aw9 n x&&Aid n a&&Aid n b
 | .block _ b=>Aid n b
 | .loop b=>Aid n b
 | _=>true
theorem Afb {n:Nat}:∀ (c:Code),Aid n c=true->Ad8 n c
 | .region _ ops _,h=>fun i o ho=>Bg1 (List.all_eq_true.1 h o (by rw [← Array.getElem?_toList] at ho;exact List.mem_of_getElem? ho))
 | .seq a b,h=>by
  simp only [Aid,Bool.and_eq_true] at h;exact ⟨Afb a h.1,Afb b h.2⟩
 | .cond x a b,h=>by
  simp only [Aid,Bool.and_eq_true] at h;exact ⟨Ax8 h.1.1,Afb a h.1.2,Afb b h.2⟩
 | .block _ b,h=>Afb b h
 | .loop b,h=>Afb b h
 | .skip,_=>trivial
 | .exit _,_=>trivial
 | .ret,_=>trivial
 | .refuse ..,_=>trivial
 | .rangeFunc ..,_=>trivial
 | .scope _,_=>trivial
 | .label _,_=>trivial
 | .goto _,_=>trivial
def resB (n:Nat):ResultVar->Bool
 | .tmp t=>decide (t<n)
 | .cell a _=>decide (a<n)
theorem Ba6 {n:Nat} {r:ResultVar} (h:resB n r=true):Ahn n r:=by
 cases r<;>simpa [resB,Ahn] using h
def Aks (fd : Func) : Bool := !(fd.name == "runtime.NumGoroutine") && (match fd.body with
 | some c=>Aid fd.ntmps c&&fd.results.toList.all (resB fd.ntmps)
 | none=>true)
theorem Bfd {fd : Func} {c : Code} (hb : fd.body = some c) (h : Aks fd = true) : (fd.name == "runtime.NumGoroutine") = false /\ Ad8 fd.ntmps c /\ ∀ r ∈ fd.results.toList, Ahn fd.ntmps r := by
 simp only [Aks,hb,Bool.and_eq_true,List.all_eq_true,Bool.not_eq_true'] at h;exact ⟨h.1,Afb c h.2.1,fun r hr=>Ba6 (h.2.2 r hr)⟩
def Aoo:List Nat->Bool
 | []=>true
 | x::xs=>xs.all (fun y=>!(x == y))&&Aoo xs
theorem Ave:∀ {l:List Nat},Aoo l=true->l.Nodup
 | [],_=>List.nodup_nil
 | x::xs,h=>by
  simp only [Aoo,Bool.and_eq_true,List.all_eq_true,Bool.not_eq_true',beq_eq_false_iff_ne,ne_eq] at h;exact List.nodup_cons.2 ⟨fun hx=>h.1 x hx rfl,Ave h.2⟩
def envB (E:Env):Bool:=(List.range E.P.funcs.size).all fun f=>(Aoo (E.vars f)&&(E.vars f).all fun s=>decide (s<1000000))&&((E.prim f).isSome || (match E.P.funcs[f]? with
 | some fd=>Aks fd
 | none=>true))
theorem Bfa {E:Env} (hm:E.P.follows .mixedOrders=true) (hp:Atc E) (hh:At9 E) (hb:envB E=true) (hv:∀ f,E.P.funcs.size<=f->E.vars f=[]):EnvOK E:=by
 have row:∀ f,f<E.P.funcs.size->(Aoo (E.vars f)=true/\∀ s∈E.vars f,s<1000000)/\((E.prim f).isSome=true∨(match E.P.funcs[f]? with
   | some fd=>Aks fd
   | none=>true)=true):=by
  intro f hf;have:=List.all_eq_true.1 hb f (List.mem_range.2 hf);simpa only [Bool.and_eq_true,List.all_eq_true,decide_eq_true_eq,Bool.or_eq_true] using this
 have at_:∀ (f:Nat) (fd:Func),E.P.funcs[f]? = some fd->E.prim f=none->Aks fd=true:=by
  intro f fd hf hpr;rcases (row f (Array.getElem?_eq_some_iff.1 hf).1).2 with h | h
  ·simp [hpr] at h
  ·rw [hf] at h;exact h
 refine ⟨hm,hh,hp,fun f fd hf hpr=>?_,fun f fd c hf hpr hc=>?_,fun f=>?_⟩
 ·have:=at_ f fd hf hpr;simp only [Aks,Bool.and_eq_true] at this;simpa using this.1
 ·have:=at_ f fd hf hpr;simp only [Aks,hc,Bool.and_eq_true,List.all_eq_true] at this;exact ⟨Afb c this.2.1,fun r hr=>Ba6 (this.2.2 r hr)⟩
 ·rcases Nat.lt_or_ge f E.P.funcs.size with h | h
  ·exact ⟨Ave (row f h).1.1,(row f h).1.2⟩
  ·rw [hv f h];simp
end Go.Own
