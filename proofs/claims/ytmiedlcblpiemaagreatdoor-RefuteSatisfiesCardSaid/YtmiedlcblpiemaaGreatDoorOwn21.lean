/- An interpreter of function bodies, sound. No conditions. -/
import Derived.Test.YtmiedlcblpiemaaGreatDoorOwn18
set_option linter.all false

namespace Go.Own
def Auw (n:Nat):Operand->Bool
 | .tmp t=>decide (t<n)
 | _=>true
theorem Avp {n:Nat} {x:Operand} (h:Auw n x=true):Fits n x:=by
 rintro t rfl;simpa [Auw] using h
def Azu (n:Nat) (o:Oper):Bool:=o.op.operands.toList.all (Auw n)&&(match o.dst with
 | some d=>decide (d<n)
 | none=>true)
theorem Bdy {n:Nat} {o:Oper} (h:Azu n o=true):Av1 n o:=by
 simp only [Azu,Bool.and_eq_true,List.all_eq_true] at h;refine ⟨fun x hx=>Avp (h.1 x hx),fun d hd=>?_⟩;have:=h.2;rw [hd] at this;simpa using this
def Aht (n:Nat):Code->Bool
 | .region _ ops _=>ops.toList.all (Azu n)
 | .seq a b=>Aht n a&&Aht n b
 | .cond x a b=>Auw n x&&Aht n a&&Aht n b
 | .block _ b=>Aht n b
 | .loop b=>Aht n b
 | _=>true
theorem Aeu {n:Nat}:∀ (c:Code),Aht n c=true->Ace n c
 | .region _ ops _,h=>fun i o ho=>Bdy (List.all_eq_true.1 h o (by rw [← Array.getElem?_toList] at ho;exact List.mem_of_getElem? ho))
 | .seq a b,h=>by
  simp only [Aht,Bool.and_eq_true] at h;exact ⟨Aeu a h.1,Aeu b h.2⟩
 | .cond x a b,h=>by
  simp only [Aht,Bool.and_eq_true] at h;exact ⟨Avp h.1.1,Aeu a h.1.2,Aeu b h.2⟩
 | .block _ b,h=>Aeu b h
 | .loop b,h=>Aeu b h
 | .skip,_=>trivial
 | .exit _,_=>trivial
 | .ret,_=>trivial
 | .refuse ..,_=>trivial
 | .rangeFunc ..,_=>trivial
 | .scope _,_=>trivial
 | .label _,_=>trivial
 | .goto _,_=>trivial
def resB (n:Nat):ResultVar->Bool
 | .tmp t=>decide (t<n)
 | .cell a _=>decide (a<n)
theorem Ayk {n:Nat} {r:ResultVar} (h:resB n r=true):Ah9 n r:=by
 cases r<;>simpa [resB,Ah9] using h
def Ak0 (fd : Func) : Bool := !(fd.name == "runtime.NumGoroutine") && (match fd.body with
 | some c=>Aht fd.ntmps c&&fd.results.toList.all (resB fd.ntmps)
 | none=>true)
theorem Bd8 {fd : Func} {c : Code} (hb : fd.body = some c) (h : Ak0 fd = true) : (fd.name == "runtime.NumGoroutine") = false /\ Ace fd.ntmps c /\ ∀ r ∈ fd.results.toList, Ah9 fd.ntmps r := by
 simp only [Ak0,hb,Bool.and_eq_true,List.all_eq_true,Bool.not_eq_true'] at h;exact ⟨h.1,Aeu c h.2.1,fun r hr=>Ayk (h.2.2 r hr)⟩
def Ana:List Nat->Bool
 | []=>true
 | x::xs=>xs.all (fun y=>!(x == y))&&Ana xs
theorem Au6:∀ {l:List Nat},Ana l=true->l.Nodup
 | [],_=>List.nodup_nil
 | x::xs,h=>by
  simp only [Ana,Bool.and_eq_true,List.all_eq_true,Bool.not_eq_true',beq_eq_false_iff_ne,ne_eq] at h;exact List.nodup_cons.2 ⟨fun hx=>h.1 x hx rfl,Au6 h.2⟩
def envB (E:Env):Bool:=(List.range E.P.funcs.size).all fun f=>(Ana (E.vars f)&&(E.vars f).all fun s=>decide (s<1000000))&&((E.prim f).isSome || (match E.P.funcs[f]? with
 | some fd=>Ak0 fd
 | none=>true))
theorem Bd3 {E:Env} (hm:E.P.follows .mixedOrders=true) (hp:As1 E) (hh:Ary E) (hb:envB E=true) (hv:∀ f,E.P.funcs.size<=f->E.vars f=[]):EnvOK E:=by
 have row:∀ f,f<E.P.funcs.size->(Ana (E.vars f)=true/\∀ s∈E.vars f,s<1000000)/\((E.prim f).isSome=true∨(match E.P.funcs[f]? with
   | some fd=>Ak0 fd
   | none=>true)=true):=by
  intro f hf;have:=List.all_eq_true.1 hb f (List.mem_range.2 hf);simpa only [Bool.and_eq_true,List.all_eq_true,decide_eq_true_eq,Bool.or_eq_true] using this
 have at_:∀ (f:Nat) (fd:Func),E.P.funcs[f]? = some fd->E.prim f=none->Ak0 fd=true:=by
  intro f fd hf hpr;rcases (row f (Array.getElem?_eq_some_iff.1 hf).1).2 with h | h
  ·simp [hpr] at h
  ·rw [hf] at h;exact h
 refine ⟨hm,hh,hp,fun f fd hf hpr=>?_,fun f fd c hf hpr hc=>?_,fun f=>?_⟩
 ·have:=at_ f fd hf hpr;simp only [Ak0,Bool.and_eq_true] at this;simpa using this.1
 ·have:=at_ f fd hf hpr;simp only [Ak0,hc,Bool.and_eq_true,List.all_eq_true] at this;exact ⟨Aeu c this.2.1,fun r hr=>Ayk (this.2.2 r hr)⟩
 ·rcases Nat.lt_or_ge f E.P.funcs.size with h | h
  ·exact ⟨Au6 (row f h).1.1,(row f h).1.2⟩
  ·rw [hv f h];simp
end Go.Own
