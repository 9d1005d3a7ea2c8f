/- An interpreter of function bodies, sound. No conditions. -/
import Derived.Test.YtmiedlcblpiemaaGreatDoorOwn18
set_option linter.all false
open Bool renaming and_eq_true->zA,not_eq_true'->zC
open List renaming all_eq_true->zB

namespace Go.Own
def Ayf(n:Nat):Operand->Bool
 | .tmp t=>decide (t<n)
 |_=>true
theorem Azj{n:Nat}{x:Operand}(h:Ayf n x=true):Fits n x:=by
 rintro t rfl;simpa[Ayf]using h
def Be5(n:Nat)(o:Oper):Bool:=o.op.operands.toList.all (Ayf n)&&(match o.dst with
 |some d=>decide (d<n)
 |none=>true)
theorem Bij{n:Nat}{o:Oper}(h:Be5 n o=true):Ayl n o:=by
 simp only[Be5,zA,zB]at h;refine⟨fun x hx=>Azj (h.1 x hx),fun d hd=>?_⟩;have:=h.2;rw[hd]at this;simpa using this
def Ajd(n:Nat):Code->Bool
 | .region _ ops _=>ops.toList.all (Be5 n)
 | .seq a b=>Ajd n a&&Ajd n b
 | .cond x a b=>Ayf n x&&Ajd n a&&Ajd n b
 | .block _ b=>Ajd n b
 | .loop b=>Ajd n b
 |_=>true
theorem Ag4{n:Nat}:∀(c:Code),Ajd n c=true->Adb n c
 | .region _ ops _,h=>fun i o ho=>Bij (zB.1 h o (by rw[<-Array.getElem?_toList]at ho;exact List.mem_of_getElem? ho))
 | .seq a b,h=>by
  simp only[Ajd,zA]at h;exact⟨Ag4 a h.1,Ag4 b h.2⟩
 | .cond x a b,h=>by
  simp only[Ajd,zA]at h;exact⟨Azj h.1.1,Ag4 a h.1.2,Ag4 b h.2⟩
 | .block _ b,h=>Ag4 b h
 | .loop b,h=>Ag4 b h
 | .skip,_=>trivial
 | .exit _,_=>trivial
 | .ret,_=>trivial
 | .refuse ..,_=>trivial
 | .rangeFunc ..,_=>trivial
 | .scope _,_=>trivial
 | .label _,_=>trivial
 | .goto _,_=>trivial
def resB(n:Nat):ResultVar->Bool
 | .tmp t=>decide (t<n)
 | .cell a _=>decide (a<n)
theorem Bcq{n:Nat}{r:ResultVar}(h:resB n r=true):Ait n r:=by
 cases r<;>simpa[resB,Ait]using h
def Aka (fd : Func) : Bool := !(fd.name == "runtime.NumGoroutine") && (match fd.body with
 |some c=>Ajd fd.ntmps c&&fd.results.toList.all (resB fd.ntmps)
 |none=>true)
theorem Azq {fd : Func} {c : Code} (hb : fd.body = some c) (h : Aka fd = true) : (fd.name == "runtime.NumGoroutine") = false /\ Adb fd.ntmps c /\ ∀ r ∈ fd.results.toList, Ait fd.ntmps r := by
 simp only[Aka,hb,zA,zB,zC]at h;exact⟨h.1,Ag4 c h.2.1,fun r hr=>Bcq (h.2.2 r hr)⟩
def Aq3:List Nat->Bool
 |[]=>true
 |x::xs=>xs.all (fun y=>!(x==y))&&Aq3 xs
theorem Axk:∀{l:List Nat},Aq3 l=true->l.Nodup
 |[],_=>List.nodup_nil
 |x::xs,h=>by
  simp only[Aq3,zA,zB,zC,beq_eq_false_iff_ne,ne_eq]at h;exact List.nodup_cons.2 ⟨fun hx=>h.1 x hx rfl,Axk h.2⟩
def envB(E:Env):Bool:=(List.range E.P.funcs.size).all fun f=>(Aq3 (E.vars f)&&(E.vars f).all fun s=>decide (s<1000000))&&((E.prim f).isSome || (match E.P.funcs[f]? with
 |some fd=>Aka fd
 |none=>true))
theorem Bhm{E:Env}(hm:E.P.follows .mixedOrders=true)(hp:Avc E)(hh:Ava E)(hb:envB E=true)(hv:∀f,E.P.funcs.size<=f->E.vars f=[]):EnvOK E:=by
 have row:∀f,f<E.P.funcs.size->(Aq3 (E.vars f)=true/\∀s∈E.vars f,s<1000000)/\((E.prim f).isSome=true∨(match E.P.funcs[f]? with
   |some fd=>Aka fd
   |none=>true)=true):=by
  intro f hf;have:=zB.1 hb f (List.mem_range.2 hf);simpa only[zA,zB,decide_eq_true_eq,Bool.or_eq_true]using this
 have at_:∀(f:Nat)(fd:Func),E.P.funcs[f]?=some fd->E.prim f=none->Aka fd=true:=by
  intro f fd hf hpr;rcases(row f (Array.getElem?_eq_some_iff.1 hf).1).2 with h|h
  .simp [hpr]at h
  .rw [hf]at h;exact h
 refine⟨hm,hh,hp,fun f fd hf hpr=>?_,fun f fd c hf hpr hc=>?_,fun f=>?_⟩
 .have:=at_ f fd hf hpr;simp only[Aka,zA]at this;simpa using this.1
 .have:=at_ f fd hf hpr;simp only[Aka,hc,zA,zB]at this;exact⟨Ag4 c this.2.1,fun r hr=>Bcq (this.2.2 r hr)⟩
 .rcases Nat.lt_or_ge f E.P.funcs.size with h|h
  .exact ⟨Axk (row f h).1.1,(row f h).1.2⟩
  .rw [hv f h];simp
end Go.Own
