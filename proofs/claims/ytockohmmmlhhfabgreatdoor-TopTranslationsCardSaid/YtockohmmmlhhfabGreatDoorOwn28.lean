/- An interpreter of function bodies, sound. No conditions. -/
import Derived.Lib.LaidTab
import Derived.Test.YtockohmmmlhhfabGreatDoorOwn25
import Derived.Test.YtockohmmmlhhfabGreatDoorOwn13
import Derived.Test.YtockohmmmlhhfabGreatDoorOwn18
import Derived.Test.YtockohmmmlhhfabGreatDoorOwn7
set_option linter.all false
namespace Go.Own
open D Go.Lib
theorem good_of_tab {E:Env} {P:Program} {W:World} {name:String} {g:Nat} (hE:E.good=Atj g) (hg:P.globalNamed name=some g) (h:TabIs P W name .u8 (zeroTab.map fun (x:Nat)=>(x:Int))):Good E (fun g=>W.heap[g]?):=by
 intro M' hM;rw [hE];have hc:∀ i,i<zeroTab.length->W.cell? ⟨g,i,none⟩=some (.int .u8 ((zeroTab.map fun (x:Nat)=>(x:Int)).getD i 0)):=fun i hi=>h.cell hg i (by simpa using hi);have h0:=hc 0 (by decide);unfold World.cell? at h0;cases ho:W.heap[g]? with
 | none=>rw [ho] at h0;cases h0
 | some o=>
  cases o with
  | cells cs e fr=>
   refine ⟨cs,e,fr,hM g _ ho,fun i x hx=>?_⟩;have hi:i<zeroTab.length:=(List.getElem?_eq_some_iff.1 hx).1;have:=hc i hi;unfold World.cell? at this;rw [ho] at this;simp only [Option.isSome_none,Bool.false_eq_true,if_false] at this;rw [this];simp [List.getD,hx]
  | _=>rw [ho] at h0;simp at h0
end Go.Own

namespace Go.Own
open D Go.Lib
theorem Asg {M:Mem} {t:T} (hg:Giv M t) {u:Value} (h:t.erase=.lit u):t=.leaf (.lit u) u:=by
 cases t with
 | leaf d v=>
  simp only [T.erase] at h;subst h;have hg:RI M (.lit u) v:=hg;simp only [RI] at hg;rw [hg.1]
 | _=>simp [T.erase] at h
end Go.Own
