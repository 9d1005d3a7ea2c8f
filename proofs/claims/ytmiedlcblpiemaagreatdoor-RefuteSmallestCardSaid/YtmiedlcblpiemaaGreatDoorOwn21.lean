/- An interpreter of function bodies, sound. No conditions. -/
import Derived.Test.YtmiedlcblpiemaaGreatDoorOwn18
set_option linter.all false
open Bool renaming and_eq_true->zA,not_eq_true'->zC
open List renaming all_eq_true->zB

namespace Go.Own
def Awq(n:Nat):Operand->Bool
 | .tmp t=>decide (t<n)
 |_=>true
theorem Axs{n:Nat}{x:Operand}(h:Awq n x=true):Fits n x:=by
 rintro t rfl;simpa[Awq]using h
def Bc3(n:Nat)(o:Oper):Bool:=o.op.operands.toList.all (Awq n)&&(match o.dst with
 |some d=>decide (d<n)
 |none=>true)
theorem Bgg{n:Nat}{o:Oper}(h:Bc3 n o=true):Ax0 n o:=by
 simp only[Bc3,zA,zB]at h;refine⟨fun x hx=>Axs (h.1 x hx),fun d hd=>?_⟩;have:=h.2;rw[hd]at this;simpa using this
def Aij(n:Nat):Code->Bool
 | .region _ ops _=>ops.toList.all (Bc3 n)
 | .seq a b=>Aij n a&&Aij n b
 | .cond x a b=>Awq n x&&Aij n a&&Aij n b
 | .block _ b=>Aij n b
 | .loop b=>Aij n b
 |_=>true
theorem Aff{n:Nat}:∀(c:Code),Aij n c=true->Acw n c
 | .region _ ops _,h=>fun i o ho=>Bgg (zB.1 h o (by rw[<-Array.getElem?_toList]at ho;exact List.mem_of_getElem? ho))
 | .seq a b,h=>by
  simp only[Aij,zA]at h;exact⟨Aff a h.1,Aff b h.2⟩
 | .cond x a b,h=>by
  simp only[Aij,zA]at h;exact⟨Axs h.1.1,Aff a h.1.2,Aff b h.2⟩
 | .block _ b,h=>Aff b h
 | .loop b,h=>Aff b h
 | .skip,_=>trivial
 | .exit _,_=>trivial
 | .ret,_=>trivial
 | .refuse ..,_=>trivial
 | .rangeFunc ..,_=>trivial
 | .scope _,_=>trivial
 | .label _,_=>trivial
 | .goto _,_=>trivial
def resB(n:Nat):ResultVar->Bool
 | .tmp t=>decide (t<n)
 | .cell a _=>decide (a<n)
theorem Baw{n:Nat}{r:ResultVar}(h:resB n r=true):Ai1 n r:=by
 cases r<;>simpa[resB,Ai1]using h
def Aku (fd : Func) : Bool := !(fd.name == "runtime.NumGoroutine") && (match fd.body with
 |some c=>Aij fd.ntmps c&&fd.results.toList.all (resB fd.ntmps)
 |none=>true)
theorem Bfr {fd : Func} {c : Code} (hb : fd.body = some c) (h : Aku fd = true) : (fd.name == "runtime.NumGoroutine") = false /\ Acw fd.ntmps c /\ ∀ r ∈ fd.results.toList, Ai1 fd.ntmps r := by
 simp only[Aku,hb,zA,zB,zC]at h;exact⟨h.1,Aff c h.2.1,fun r hr=>Baw (h.2.2 r hr)⟩
def Aoi:List Nat->Bool
 |[]=>true
 |x::xs=>xs.all (fun y=>!(x==y))&&Aoi xs
theorem Avw:∀{l:List Nat},Aoi l=true->l.Nodup
 |[],_=>List.nodup_nil
 |x::xs,h=>by
  simp only[Aoi,zA,zB,zC,beq_eq_false_iff_ne,ne_eq]at h;exact List.nodup_cons.2 ⟨fun hx=>h.1 x hx rfl,Avw h.2⟩
def envB(E:Env):Bool:=(List.range E.P.funcs.size).all fun f=>(Aoi (E.vars f)&&(E.vars f).all fun s=>decide (s<1000000))&&((E.prim f).isSome || (match E.P.funcs[f]? with
 |some fd=>Aku fd
 |none=>true))
theorem Bfm{E:Env}(hm:E.P.follows .mixedOrders=true)(hp:Atg E)(hh:Atd E)(hb:envB E=true)(hv:∀f,E.P.funcs.size<=f->E.vars f=[]):EnvOK E:=by
 have row:∀f,f<E.P.funcs.size->(Aoi (E.vars f)=true/\∀s∈E.vars f,s<1000000)/\((E.prim f).isSome=true∨(match E.P.funcs[f]? with
   |some fd=>Aku fd
   |none=>true)=true):=by
  intro f hf;have:=zB.1 hb f (List.mem_range.2 hf);simpa only[zA,zB,decide_eq_true_eq,Bool.or_eq_true]using this
 have at_:∀(f:Nat)(fd:Func),E.P.funcs[f]?=some fd->E.prim f=none->Aku fd=true:=by
  intro f fd hf hpr;rcases(row f (Array.getElem?_eq_some_iff.1 hf).1).2 with h|h
  .simp [hpr]at h
  .rw [hf]at h;exact h
 refine⟨hm,hh,hp,fun f fd hf hpr=>?_,fun f fd c hf hpr hc=>?_,fun f=>?_⟩
 .have:=at_ f fd hf hpr;simp only[Aku,zA]at this;simpa using this.1
 .have:=at_ f fd hf hpr;simp only[Aku,hc,zA,zB]at this;exact⟨Aff c this.2.1,fun r hr=>Baw (this.2.2 r hr)⟩
 .rcases Nat.lt_or_ge f E.P.funcs.size with h|h
  .exact ⟨Avw (row f h).1.1,(row f h).1.2⟩
  .rw [hv f h];simp
end Go.Own
