/- An interpreter of function bodies, sound. No conditions. -/
import Derived.Lib.LaidTab
import Derived.Test.YtmiedlcblpiemaaDoorOwn29
import Derived.Test.YtmiedlcblpiemaaDoorOwn13
import Derived.Test.YtmiedlcblpiemaaDoorOwn18
import Derived.Test.YtmiedlcblpiemaaDoorOwn7
set_option linter.all false
namespace Go.Own
open D Go.Lib
theorem good_of_tab {E:Env} {P:Program} {W:World} {name:String} {g:Nat} (hE:E.good=Auv g) (hg:P.globalNamed name=some g) (h:TabIs P W name .u8 (zeroTab.map fun (x:Nat)=>(x:Int))):Good E (fun g=>W.heap[g]?):=by
 intro M' hM;rw [hE];have hc:∀ i,i<zeroTab.length->W.cell? ⟨g,i,none⟩=some (.int .u8 ((zeroTab.map fun (x:Nat)=>(x:Int)).getD i 0)):=fun i hi=>h.cell hg i (by simpa using hi);have h0:=hc 0 (by decide);unfold World.cell? at h0;cases ho:W.heap[g]? with
 | none=>rw [ho] at h0;cases h0
 | some o=>
  cases o with
  | cells cs e fr=>
   refine ⟨cs,e,fr,hM g _ ho,fun i x hx=>?_⟩;have hi:i<zeroTab.length:=(List.getElem?_eq_some_iff.1 hx).1;have:=hc i hi;unfold World.cell? at this;rw [ho] at this;simp only [Option.isSome_none,Bool.false_eq_true,if_false] at this;rw [this];simp [List.getD,hx]
  | _=>rw [ho] at h0;simp at h0
end Go.Own

namespace Go.Own
open D Go.Lib
end Go.Own
