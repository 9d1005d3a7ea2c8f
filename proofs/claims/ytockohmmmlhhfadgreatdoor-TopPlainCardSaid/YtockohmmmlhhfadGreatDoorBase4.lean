/- What it asks of this program. No conditions. -/
import Derived.Test.YtockohmmmlhhfadGreatDoorProg
import Derived.Shelf.RegionOpenPlain
import Derived.Lib.Strings
import Derived.Lib.Slices
import Derived.Lib.Walk
import Derived.Lib.Builder
import Derived.Lib.AppendStr
import Derived.Lib.UnsafeStr
import Derived.Lib.MakeNoZero
import Derived.WalkKit
import Derived.Laws.Externs
import Derived.Laws.BitsLemmas
import Derived.Test.YtockohmmmlhhfadGreatDoorBase1
import Derived.Test.YtockohmmmlhhfadGreatDoorOwn28
set_option linter.all false

namespace Go.Own.Bld
open Go.Proofs Go.Lib Go.RowKit
theorem mixed:Tryz.prog.follows .mixedOrders=true:=by kernel_rfl
theorem grown_freeze (w:World) (g n:Nat):w.grownBy (w.drew.freeze ⟨g,0,none⟩ n) (some g):=by
 unfold World.freeze
 split
 ·exact ⟨rfl,rfl,rfl,Nat.le_refl _,fun _ _ _=>rfl⟩
 ·refine ⟨rfl,rfl,rfl,by simp,fun k hk hne=>?_⟩;simp only [Array.getElem?_modify];rw [if_neg (fun e=>hne (by rw [e]))];rfl
theorem string_none (W:World) (q:Option Addr):(Builtin.unsafeString_ #[170,3] 9 #[.pointer q,.int .i64 0]).run Tryz.prog W=.ok (.string .empty) W:=
 Lib.run_unsafeString_none W _ _ _ q
set_option maxHeartbeats 2000000 in
set_option maxRecDepth 100000 in
theorem str_some (b g cap:Nat) (p:Value) (cur:Array Value) (w:World) (l:List UInt8) (hb:w.heap[b]? = some (.cells #[p,.slice (some ⟨g,0,none⟩) l.length cap] 131 (0,0))) (hg:w.heap[g]? = some (.cells cur 5 (0,0)))
  (hnc:l.length<=cap) (hcm:cap<=maxLen) (hcells:∀ (j:Nat) (x:UInt8),l[j]? = some x->w.cell? ((⟨g,0,none⟩:Addr).add j)=some (.int .u8 x.toNat)) (hcs:cur.size=cap) (h0:l≠[]) :
  Calls Tryz.prog 55 #[.pointer (some ⟨b,0,none⟩)] w fun e w'=>e=.returned (.string ⟨l.toArray⟩)/\w.grownBy w' (some g):=by
 have hl0:l.length≠0:=by simpa using h0
 have c1:w.drew.cell? ⟨b,1,none⟩=some (.slice (some ⟨g,0,none⟩) l.length cap):=by
  have:w.drew.heap[b]? = some (.cells #[p,.slice (some ⟨g,0,none⟩) l.length cap] 131 (0,0)):=hb;rw [Lib.cell_of_heap this];rfl
 have hSD:(Builtin.unsafeSliceData_ #[101] 170 #[.slice (some ⟨g,0,none⟩) l.length cap]).run Tryz.prog w.drew=.ok (.pointer (some ⟨g,0,none⟩)) w.drew:=
  Lib.run_unsafeSliceData_row _ _ _ _ _ _ (by omega)
 have hUS:(Builtin.unsafeString_ #[170,3] 9 #[.pointer (some ⟨g,0,none⟩),.int .i64 l.length]).run Tryz.prog w.drew=.ok (.string ⟨l.toArray⟩) (w.drew.freeze ⟨g,0,none⟩ l.length):=
  Lib.run_unsafeString_row w.drew 170 3 9 5 Tryz.underlying170 cellsByte g cur.size (by have hg':w.drew.heap[g]? = some (.cells cur 5 (0,0)):=hg;simp [World.shape?,hg']) l h0 (by omega) (by unfold maxLen at hcm;omega) fun j x hx=>hcells j x hx
 have mixed:=mixed
 go_enter Tryz.func55,Tryz.ntmps55
 go_wp2
 go_region_o
 all_goals (go_wp2;go_ret;exact ⟨rfl,grown_freeze w g _⟩)
set_option maxHeartbeats 2000000 in
set_option maxRecDepth 100000 in
theorem str_nil (b:Nat) (p:Value) (w:World) (hb:w.heap[b]? = some (.cells #[p,.slice none 0 0] 131 (0,0))) :
  Calls Tryz.prog 55 #[.pointer (some ⟨b,0,none⟩)] w fun e w'=>e=.returned (.string ⟨#[]⟩)/\w.grownBy w' none:=by
 have hUS:=string_none;have c1:w.drew.cell? ⟨b,1,none⟩=some (.slice none 0 0):=by
  have:w.drew.heap[b]? = some (.cells #[p,.slice none 0 0] 131 (0,0)):=hb;rw [Lib.cell_of_heap this];rfl
 have hSD:(Builtin.unsafeSliceData_ #[101] 170 #[.slice none 0 0]).run Tryz.prog w.drew=.ok (.pointer none) w.drew:=rfl;have mixed:=mixed
 go_enter Tryz.func55,Tryz.ntmps55
 go_wp2
 go_region_o
 all_goals (go_wp2;go_ret;exact ⟨rfl,rfl,rfl,rfl,Nat.le_refl _,fun _ _ _=>rfl⟩)
set_option maxHeartbeats 2000000 in
set_option maxRecDepth 100000 in
theorem str_noroom (b g:Nat) (p:Value) (cur:Array Value) (w:World) (hb:w.heap[b]? = some (.cells #[p,.slice (some ⟨g,0,none⟩) 0 0] 131 (0,0))) (hg:w.heap[g]? = some (.cells cur 5 (0,0))) :
  Calls Tryz.prog 55 #[.pointer (some ⟨b,0,none⟩)] w fun e w'=>e=.returned (.string ⟨#[]⟩)/\w.grownBy w' none:=by
 have hUS:=string_none;have hlt:b<w.heap.size:=by
  rcases Nat.lt_or_ge b w.heap.size with h' | h'
  ·exact h'
  ·simp [Array.getElem?_eq_none h'] at hb
 have c1:w.drew.cell? ⟨b,1,none⟩=some (.slice (some ⟨g,0,none⟩) 0 0):=by
  have:w.drew.heap[b]? = some (.cells #[p,.slice (some ⟨g,0,none⟩) 0 0] 131 (0,0)):=hb;rw [Lib.cell_of_heap this];rfl
 have hSD:(Builtin.unsafeSliceData_ #[101] 170 #[.slice (some ⟨g,0,none⟩) 0 0]).run Tryz.prog w.drew=.ok (.pointer (some ⟨w.drew.heap.size,0,none⟩)) (w.drew.alloc (.view ⟨g,0,none⟩ 5)):=
  Lib.run_unsafeSliceData_zero w.drew _ _ 5 Tryz.underlying170 ⟨g,0,none⟩ 0 (5,cur.size) (by have hg':w.drew.heap[g]? = some (.cells cur 5 (0,0)):=hg;simp [World.shape?,hg'])
 have c2:(w.drew.alloc (.view ⟨g,0,none⟩ 5)).cell? ⟨b,1,none⟩=some (.slice (some ⟨g,0,none⟩) 0 0):=by
  have:(w.drew.alloc (.view ⟨g,0,none⟩ 5)).heap[b]? = _:=(Lib.alloc_old w.drew _ b hlt).trans hb;rw [Lib.cell_of_heap this];rfl
 have c3:(w.alloc (.view ⟨g,0,none⟩ 5)).drew.cell? ⟨b,1,none⟩=some (.slice (some ⟨g,0,none⟩) 0 0):=c2;have c0:w.cell? ⟨b,1,none⟩=some (.slice (some ⟨g,0,none⟩) 0 0):=c1;have mixed:=mixed
 go_enter Tryz.func55,Tryz.ntmps55
 go_wp2
 go_region_o
 all_goals (go_wp2;go_ret;exact ⟨rfl,rfl,rfl,rfl,by simp,fun k hk _=>Lib.alloc_old w _ k hk⟩)
set_option maxHeartbeats 2000000 in
set_option maxRecDepth 100000 in
theorem str_room (b g cap:Nat) (p:Value) (w:World) (hc0:cap≠0) (hb:w.heap[b]? = some (.cells #[p,.slice (some ⟨g,0,none⟩) 0 cap] 131 (0,0))) :
  Calls Tryz.prog 55 #[.pointer (some ⟨b,0,none⟩)] w fun e w'=>e=.returned (.string ⟨#[]⟩)/\w.grownBy w' none:=by
 have hUS:=string_none;have c1:w.drew.cell? ⟨b,1,none⟩=some (.slice (some ⟨g,0,none⟩) 0 cap):=by
  have:w.drew.heap[b]? = some (.cells #[p,.slice (some ⟨g,0,none⟩) 0 cap] 131 (0,0)):=hb;rw [Lib.cell_of_heap this];rfl
 have hSD:(Builtin.unsafeSliceData_ #[101] 170 #[.slice (some ⟨g,0,none⟩) 0 cap]).run Tryz.prog w.drew=.ok (.pointer (some ⟨g,0,none⟩)) w.drew:=
  Lib.run_unsafeSliceData_row _ _ _ _ _ _ hc0
 clear hc0;have mixed:=mixed
 go_enter Tryz.func55,Tryz.ntmps55
 go_wp2
 go_region_o
 all_goals (go_wp2;go_ret;exact ⟨rfl,rfl,rfl,rfl,Nat.le_refl _,fun _ _ _=>rfl⟩)
theorem writeOK:Ayk Tryz.prog 54 131 5:=fun b w p v n xs s hb hp hown hne hlen=>write b w p v n xs s hb hp hown hne hlen
theorem grown_some {w w':World} {g:Option Nat} (h:w.grownBy w' none):w.grownBy w' g:=⟨h.os,h.tape,h.output,h.size,fun k hk _=>h.block k hk (by simp)⟩
theorem stringOK:Avw Tryz.prog 55 131 5:=by
 intro b w p v l hb hown;rcases hown.2 with ⟨rfl,hl⟩ | ⟨g,cap,cur,rfl,_,hg,hnc,hcm,hcs,htake⟩
 ·obtain rfl:=List.eq_nil_of_length_eq_zero hl;exact (str_nil b p w hb).mono fun e w' h=>⟨h.1,grown_some h.2⟩
 ·by_cases h0:l=[]
  ·subst h0;by_cases hc:cap=0
   ·subst hc;exact (str_noroom b g p cur w hb hg).mono fun e w' h=>⟨h.1,grown_some h.2⟩
   ·exact (str_room b g cap p w hc hb).mono fun e w' h=>⟨h.1,grown_some h.2⟩
  ·exact str_some b g cap p cur w l hb hg hnc hcm (fun j x hx=>hown.cells (g:=g) rfl j _ (by simp [hx])) (by omega) h0
end Go.Own.Bld
