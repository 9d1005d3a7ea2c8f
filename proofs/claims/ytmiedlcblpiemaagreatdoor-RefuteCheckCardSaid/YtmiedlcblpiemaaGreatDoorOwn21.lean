/- An interpreter of function bodies, sound. No conditions. -/
import Derived.Test.YtmiedlcblpiemaaGreatDoorOwn18
set_option linter.all false

namespace Go.Own
def Av4 (n:Nat):Operand->Bool
 | .tmp t=>decide (t<n)
 | _=>true
theorem Avy {n:Nat} {x:Operand} (h:Av4 n x=true):Fits n x:=by
 rintro t rfl;simpa [Av4] using h
def Ba0 (n:Nat) (o:Oper):Bool:=o.op.operands.toList.all (Av4 n)&&(match o.dst with
 | some d=>decide (d<n)
 | none=>true)
theorem Be5 {n:Nat} {o:Oper} (h:Ba0 n o=true):Ava n o:=by
 simp only [Ba0,Bool.and_eq_true,List.all_eq_true] at h;refine ⟨fun x hx=>Avy (h.1 x hx),fun d hd=>?_⟩;have:=h.2;rw [hd] at this;simpa using this
def Ahr (n:Nat):Code->Bool
 | .region _ ops _=>ops.toList.all (Ba0 n)
 | .seq a b=>Ahr n a&&Ahr n b
 | .cond x a b=>Av4 n x&&Ahr n a&&Ahr n b
 | .block _ b=>Ahr n b
 | .loop b=>Ahr n b
 | _=>true
theorem Aey {n:Nat}:∀ (c:Code),Ahr n c=true->Ace n c
 | .region _ ops _,h=>fun i o ho=>Be5 (List.all_eq_true.1 h o (by rw [← Array.getElem?_toList] at ho;exact List.mem_of_getElem? ho))
 | .seq a b,h=>by
  simp only [Ahr,Bool.and_eq_true] at h;exact ⟨Aey a h.1,Aey b h.2⟩
 | .cond x a b,h=>by
  simp only [Ahr,Bool.and_eq_true] at h;exact ⟨Avy h.1.1,Aey a h.1.2,Aey b h.2⟩
 | .block _ b,h=>Aey b h
 | .loop b,h=>Aey b h
 | .skip,_=>trivial
 | .exit _,_=>trivial
 | .ret,_=>trivial
 | .refuse ..,_=>trivial
 | .rangeFunc ..,_=>trivial
 | .scope _,_=>trivial
 | .label _,_=>trivial
 | .goto _,_=>trivial
def resB (n:Nat):ResultVar->Bool
 | .tmp t=>decide (t<n)
 | .cell a _=>decide (a<n)
theorem Ayr {n:Nat} {r:ResultVar} (h:resB n r=true):Aha n r:=by
 cases r<;>simpa [resB,Aha] using h
def Ak4 (fd : Func) : Bool := !(fd.name == "runtime.NumGoroutine") && (match fd.body with
 | some c=>Ahr fd.ntmps c&&fd.results.toList.all (resB fd.ntmps)
 | none=>true)
theorem Bdf {fd : Func} {c : Code} (hb : fd.body = some c) (h : Ak4 fd = true) : (fd.name == "runtime.NumGoroutine") = false /\ Ace fd.ntmps c /\ ∀ r ∈ fd.results.toList, Aha fd.ntmps r := by
 simp only [Ak4,hb,Bool.and_eq_true,List.all_eq_true,Bool.not_eq_true'] at h;exact ⟨h.1,Aey c h.2.1,fun r hr=>Ayr (h.2.2 r hr)⟩
def Anh:List Nat->Bool
 | []=>true
 | x::xs=>xs.all (fun y=>!(x == y))&&Anh xs
theorem Auc:∀ {l:List Nat},Anh l=true->l.Nodup
 | [],_=>List.nodup_nil
 | x::xs,h=>by
  simp only [Anh,Bool.and_eq_true,List.all_eq_true,Bool.not_eq_true',beq_eq_false_iff_ne,ne_eq] at h;exact List.nodup_cons.2 ⟨fun hx=>h.1 x hx rfl,Auc h.2⟩
def envB (E:Env):Bool:=(List.range E.P.funcs.size).all fun f=>(Anh (E.vars f)&&(E.vars f).all fun s=>decide (s<1000000))&&((E.prim f).isSome || (match E.P.funcs[f]? with
 | some fd=>Ak4 fd
 | none=>true))
theorem Bda {E:Env} (hm:E.P.follows .mixedOrders=true) (hp:As7 E) (hh:As4 E) (hb:envB E=true) (hv:∀ f,E.P.funcs.size<=f->E.vars f=[]):EnvOK E:=by
 have row:∀ f,f<E.P.funcs.size->(Anh (E.vars f)=true/\∀ s∈E.vars f,s<1000000)/\((E.prim f).isSome=true∨(match E.P.funcs[f]? with
   | some fd=>Ak4 fd
   | none=>true)=true):=by
  intro f hf;have:=List.all_eq_true.1 hb f (List.mem_range.2 hf);simpa only [Bool.and_eq_true,List.all_eq_true,decide_eq_true_eq,Bool.or_eq_true] using this
 have at_:∀ (f:Nat) (fd:Func),E.P.funcs[f]? = some fd->E.prim f=none->Ak4 fd=true:=by
  intro f fd hf hpr;rcases (row f (Array.getElem?_eq_some_iff.1 hf).1).2 with h | h
  ·simp [hpr] at h
  ·rw [hf] at h;exact h
 refine ⟨hm,hh,hp,fun f fd hf hpr=>?_,fun f fd c hf hpr hc=>?_,fun f=>?_⟩
 ·have:=at_ f fd hf hpr;simp only [Ak4,Bool.and_eq_true] at this;simpa using this.1
 ·have:=at_ f fd hf hpr;simp only [Ak4,hc,Bool.and_eq_true,List.all_eq_true] at this;exact ⟨Aey c this.2.1,fun r hr=>Ayr (this.2.2 r hr)⟩
 ·rcases Nat.lt_or_ge f E.P.funcs.size with h | h
  ·exact ⟨Auc (row f h).1.1,(row f h).1.2⟩
  ·rw [hv f h];simp
end Go.Own
