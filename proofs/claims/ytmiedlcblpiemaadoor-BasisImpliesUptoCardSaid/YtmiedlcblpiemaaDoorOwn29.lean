/- An interpreter of function bodies without memory, proved sound for the model. No conditions. -/
import Derived.Lib.LaidTab
import Derived.ChangeSame
import Derived.RowKit
import Derived.Test.YtmiedlcblpiemaaDoorOwn27
import Derived.Test.YtmiedlcblpiemaaDoorOwn13
import Derived.Test.YtmiedlcblpiemaaDoorOwn18
import Derived.Test.YtmiedlcblpiemaaDoorOwn7
import Derived.Test.YtmiedlcblpiemaaDoorOwn28
set_option linter.all false
namespace Go.Own
open D Go.Lib
theorem good_of_tab {E:Env} {P:Program} {W:World} {name:String} {g:Nat} (hE:E.good=TabIn g) (hg:P.globalNamed name=some g) (h:TabIs P W name .u8 (zeroTab.map fun (x:Nat)=>(x:Int))):Good E (fun g=>W.heap[g]?):=by
 intro M' hM
 rw [hE]
 have hc:∀ i,i<zeroTab.length→W.cell? ⟨g,i,none⟩=some (.int .u8 ((zeroTab.map fun (x:Nat)=>(x:Int)).getD i 0)):=fun i hi=>h.cell hg i (by simpa using hi)
 have h0:=hc 0 (by decide)
 unfold World.cell? at h0
 cases ho:W.heap[g]? with
 | none=>rw [ho] at h0;cases h0
 | some o=>
  cases o with
  | cells cs e fr=>
   refine ⟨cs,e,fr,hM g _ ho,fun i x hx=>?_⟩
   have hi:i<zeroTab.length:=(List.getElem?_eq_some_iff.1 hx).1
   have:=hc i hi
   unfold World.cell? at this
   rw [ho] at this
   simp only [Option.isSome_none,Bool.false_eq_true,if_false] at this
   rw [this]
   simp [List.getD,hx]
  | _=>rw [ho] at h0;simp at h0
end Go.Own

namespace Go.Own
open D Go.Lib
end Go.Own

namespace Go.Own
open D Go.ChangeShapes Go.RowKit
def TyA (P:Program) (k:Nat) (t:TypeId) (d:D):Prop:=
 match P.underlying t with
 | some (.struct _)=>∃ ds,d=.agg ds∧Ty P k t ds
 | some (.array _ _)=>∃ ds,d=.agg ds∧Ty P k t ds
 | _=>Ty P k t [d]
def TyAll (P:Program) (k:Nat):List TypeId→List D→Prop
 | [],ds=>ds=[]
 | t::ts,ds=>∃ d ds',ds=d::ds'∧TyA P k t d∧TyAll P k ts ds'
theorem lentsT_none {E:Env} {f:Nat}:∀ (ts:List T) (i:Nat),(∀ j,E.mode f j≠.inout)→lentsT E f i ts=[]
 | [],_,_=>rfl
 | t::ts,i,h=>by simp [lentsT,h i,lentsT_none ts (i+1) h]
end Go.Own
