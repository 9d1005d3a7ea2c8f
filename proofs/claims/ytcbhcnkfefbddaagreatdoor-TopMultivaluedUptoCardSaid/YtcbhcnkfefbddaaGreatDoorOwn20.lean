/- An interpreter of function bodies, sound. No conditions. -/
import Derived.Test.YtcbhcnkfefbddaaGreatDoorOwn17
set_option linter.all false
open Bool renaming and_eq_true->aA,not_eq_true'->aQ
open List renaming all_eq_true->aM

namespace Go.aS
def Hg(n:Nat):Operand->Bool
 | .tmp t=>decide (t<n)
 |_=>true
theorem Tf{n:Nat}{x:Operand}(h:Hg n x=true):Fits n x:=by
 rintro t rfl;simpa[Hg]using h
def Mm(n:Nat)(o:Oper):Bool:=o.op.operands.toList.all (Hg n)&&(match o.dst with
 |some d=>decide (d<n)
 |none=>true)
theorem acC{n:Nat}{o:Oper}(h:Mm n o=true):L0 n o:=by
 simp only[Mm,aA,aM]at h;refine⟨λx U=>Tf (h.1 x U),λd ah=>?_⟩;have:=h.2;rw[ah]at this;simpa using this
def sL(n:Nat):Code->Bool
 | .region _ ops _=>ops.toList.all (Mm n)
 | .seq a b=>sL n a&&sL n b
 | .cond x a b=>Hg n x&&sL n a&&sL n b
 | .block _ b=>sL n b
 | .loop b=>sL n b
 |_=>true
theorem vW{n:Nat}:∀(c:Code),sL n c=true->o_ n c
 | .region _ ops _,h=>λi o an=>acC (aM.1 h o (by rw[<-Array.getElem?_toList]at an;exact List.mem_of_getElem? an))
 | .seq a b,h=>by
  simp only[sL,aA]at h;exact⟨vW a h.1,vW b h.2⟩
 | .cond x a b,h=>by
  simp only[sL,aA]at h;exact⟨Tf h.1.1,vW a h.1.2,vW b h.2⟩
 | .block _ b,h=>vW b h
 | .loop b,h=>vW b h
 | .skip,_=>trivial
 | .exit _,_=>trivial
 | .ret,_=>trivial
 | .refuse ..,_=>trivial
 | .rangeFunc ..,_=>trivial
 | .scope _,_=>trivial
 | .label _,_=>trivial
 | .goto _,_=>trivial
def PG(n:Nat):ResultVar->Bool
 | .tmp t=>decide (t<n)
 | .cell a _=>decide (a<n)
theorem T2{n:Nat}{r:ResultVar}(h:PG n r=true):x5 n r:=by
 cases r<;>simpa[PG,x5]using h
def uw (fd : Func) : Bool := !(fd.name == "runtime.NumGoroutine") && (match fd.body with
 |some c=>sL fd.ntmps c&&fd.results.toList.all (PG fd.ntmps)
 |none=>true)
theorem Tk {fd : Func} {c : Code} (ag : fd.body = some c) (h : uw fd = true) : (fd.name == "runtime.NumGoroutine") = false /\ o_ fd.ntmps c /\ ∀ r ∈ fd.results.toList, x5 fd.ntmps r := by
 simp only[uw,ag,aA,aM,aQ]at h;exact⟨h.1,vW c h.2.1,λr hr=>T2 (h.2.2 r hr)⟩
def Dk:List Nat->Bool
 |[]=>true
 |x::xs=>xs.all (λy=>!(x==y))&&Dk xs
theorem SE:∀{l:List Nat},Dk l=true->l.Nodup
 |[],_=>List.nodup_nil
 |x::xs,h=>by
  simp only[Dk,aA,aM,aQ,beq_eq_false_iff_ne,ne_eq]at h;exact List.nodup_cons.2 ⟨λU=>h.1 x U rfl,SE h.2⟩
def Ve(E:Env):Bool:=(List.range E.P.funcs.size).all λf=>(Dk (E.vars f)&&(E.vars f).all λs=>decide (s<1000000))&&((E.kG f).isSome || (match E.P.funcs[f]? with
 |some fd=>uw fd
 |none=>true))
theorem ab6{E:Env}(hm:E.P.follows .mixedOrders=true)(af:Lw E)(aU:Lu E)(ag:Ve E=true)(av:∀f,E.P.funcs.size<=f->E.vars f=[]):Du E:=by
 have row:∀f,f<E.P.funcs.size->(Dk (E.vars f)=true/\∀s∈E.vars f,s<1000000)/\((E.kG f).isSome=true∨(match E.P.funcs[f]? with
   |some fd=>uw fd
   |none=>true)=true):=by
  intro f hf;have:=aM.1 ag f (List.mem_range.2 hf);simpa only[aA,aM,decide_eq_true_eq,Bool.or_eq_true]using this
 have at_:∀(f:Nat)(fd:Func),E.P.funcs[f]?=some fd->E.kG f=none->uw fd=true:=by
  intro f fd hf tm;rcases(row f (Array.getElem?_eq_some_iff.1 hf).1).2 with h|h
  .simp [tm]at h
  .rw [hf]at h;exact h
 refine⟨hm,aU,af,λf fd hf tm=>?_,λf fd c hf tm ad=>?_,λf=>?_⟩
 .have:=at_ f fd hf tm;simp only[uw,aA]at this;simpa using this.1
 .have:=at_ f fd hf tm;simp only[uw,ad,aA,aM]at this;exact⟨vW c this.2.1,λr hr=>T2 (this.2.2 r hr)⟩
 .rcases Nat.lt_or_ge f E.P.funcs.size with h|h
  .exact ⟨SE (row f h).1.1,(row f h).1.2⟩
  .rw [av f h];simp
end Go.aS
