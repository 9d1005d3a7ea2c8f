/- An interpreter of function bodies without memory, proved sound for the model. No conditions. -/
import Derived.Test.YtmiedlcblpiemaaGreatDoorOwn18
set_option linter.all false

namespace Go.Own
def fitsB (n:Nat):Operand→Bool
 | .tmp t=>decide (t<n)
 | _=>true
theorem fitsB_ok {n:Nat} {x:Operand} (h:fitsB n x=true):Fits n x:=by
 rintro t rfl
 simpa [fitsB] using h
def operB (n:Nat) (o:Oper):Bool:=o.op.operands.toList.all (fitsB n)&&(match o.dst with
 | some d=>decide (d<n)
 | none=>true)
theorem operB_ok {n:Nat} {o:Oper} (h:operB n o=true):OpFits n o:=by
 simp only [operB,Bool.and_eq_true,List.all_eq_true] at h
 refine ⟨fun x hx=>fitsB_ok (h.1 x hx),fun d hd=>?_⟩
 have:=h.2
 rw [hd] at this
 simpa using this
def codeB (n:Nat):Code→Bool
 | .region _ ops _=>ops.toList.all (operB n)
 | .seq a b=>codeB n a&&codeB n b
 | .cond x a b=>fitsB n x&&codeB n a&&codeB n b
 | .block _ b=>codeB n b
 | .loop b=>codeB n b
 | _=>true
theorem codeB_ok {n:Nat}:∀ (c:Code),codeB n c=true→CodeFits n c
 | .region _ ops _,h=>fun i o ho=>operB_ok (List.all_eq_true.1 h o (by rw [← Array.getElem?_toList] at ho;exact List.mem_of_getElem? ho))
 | .seq a b,h=>by
  simp only [codeB,Bool.and_eq_true] at h
  exact ⟨codeB_ok a h.1,codeB_ok b h.2⟩
 | .cond x a b,h=>by
  simp only [codeB,Bool.and_eq_true] at h
  exact ⟨fitsB_ok h.1.1,codeB_ok a h.1.2,codeB_ok b h.2⟩
 | .block _ b,h=>codeB_ok b h
 | .loop b,h=>codeB_ok b h
 | .skip,_=>trivial
 | .exit _,_=>trivial
 | .ret,_=>trivial
 | .refuse ..,_=>trivial
 | .rangeFunc ..,_=>trivial
 | .scope _,_=>trivial
 | .label _,_=>trivial
 | .goto _,_=>trivial
def resB (n:Nat):ResultVar→Bool
 | .tmp t=>decide (t<n)
 | .cell a _=>decide (a<n)
theorem resB_ok {n:Nat} {r:ResultVar} (h:resB n r=true):ResFits n r:=by
 cases r<;>simpa [resB,ResFits] using h
def funcB (fd : Func) : Bool := !(fd.name == "runtime.NumGoroutine") && (match fd.body with
 | some c=>codeB fd.ntmps c&&fd.results.toList.all (resB fd.ntmps)
 | none=>true)
theorem funcB_ok {fd : Func} {c : Code} (hb : fd.body = some c) (h : funcB fd = true) : (fd.name == "runtime.NumGoroutine") = false ∧ CodeFits fd.ntmps c ∧ ∀ r ∈ fd.results.toList, ResFits fd.ntmps r := by
 simp only [funcB,hb,Bool.and_eq_true,List.all_eq_true,Bool.not_eq_true'] at h
 exact ⟨h.1,codeB_ok c h.2.1,fun r hr=>resB_ok (h.2.2 r hr)⟩
def nodupV:List Nat→Bool
 | []=>true
 | x::xs=>xs.all (fun y=>!(x == y))&&nodupV xs
theorem nodupV_ok:∀ {l:List Nat},nodupV l=true→l.Nodup
 | [],_=>List.nodup_nil
 | x::xs,h=>by
  simp only [nodupV,Bool.and_eq_true,List.all_eq_true,Bool.not_eq_true',beq_eq_false_iff_ne,ne_eq] at h
  exact List.nodup_cons.2 ⟨fun hx=>h.1 x hx rfl,nodupV_ok h.2⟩
def envB (E:Env):Bool:=(List.range E.P.funcs.size).all fun f=>(nodupV (E.vars f)&&(E.vars f).all fun s=>decide (s<1000000))&&((E.prim f).isSome || (match E.P.funcs[f]? with
 | some fd=>funcB fd
 | none=>true))
theorem envOK_of {E:Env} (hm:E.P.follows .mixedOrders=true) (hp:PrimsOK E) (hh:HandsOK E) (hb:envB E=true) (hv:∀ f,E.P.funcs.size≤f→E.vars f=[]):EnvOK E:=by
 have row:∀ f,f<E.P.funcs.size→(nodupV (E.vars f)=true∧∀ s∈E.vars f,s<1000000)∧((E.prim f).isSome=true∨(match E.P.funcs[f]? with
   | some fd=>funcB fd
   | none=>true)=true):=by
  intro f hf
  have:=List.all_eq_true.1 hb f (List.mem_range.2 hf)
  simpa only [Bool.and_eq_true,List.all_eq_true,decide_eq_true_eq,Bool.or_eq_true] using this
 have at_:∀ (f:Nat) (fd:Func),E.P.funcs[f]? = some fd→E.prim f=none→funcB fd=true:=by
  intro f fd hf hpr
  rcases (row f (Array.getElem?_eq_some_iff.1 hf).1).2 with h | h
  ·simp [hpr] at h
  ·rw [hf] at h;exact h
 refine ⟨hm,hh,hp,fun f fd hf hpr=>?_,fun f fd c hf hpr hc=>?_,fun f=>?_⟩
 ·have:=at_ f fd hf hpr
  simp only [funcB,Bool.and_eq_true] at this
  simpa using this.1
 ·have:=at_ f fd hf hpr
  simp only [funcB,hc,Bool.and_eq_true,List.all_eq_true] at this
  exact ⟨codeB_ok c this.2.1,fun r hr=>resB_ok (this.2.2 r hr)⟩
 ·rcases Nat.lt_or_ge f E.P.funcs.size with h | h
  ·exact ⟨nodupV_ok (row f h).1.1,(row f h).1.2⟩
  ·rw [hv f h];simp
end Go.Own
