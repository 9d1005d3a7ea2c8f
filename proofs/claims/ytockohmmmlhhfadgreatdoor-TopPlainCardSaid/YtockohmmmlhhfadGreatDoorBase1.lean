/- What it asks of this program. No conditions. -/
import Derived.Test.YtockohmmmlhhfadGreatDoorProg
import Derived.Shelf.RegionOpenPlain
import Derived.Lib.Strings
import Derived.Lib.Slices
import Derived.Lib.Walk
import Derived.Lib.Builder
import Derived.Lib.AppendStr
import Derived.Lib.UnsafeStr
import Derived.Lib.MakeNoZero
import Derived.WalkKit
import Derived.Laws.Externs
import Derived.Laws.BitsLemmas
import Derived.Test.YtockohmmmlhhfadGreatDoorOwn7
set_option linter.all false

namespace Go.Own.Bld
open Go.Proofs Go.Lib Go.RowKit
theorem sizeBuilder:(Tryz.prog.info? 131).map (·.size)=some 2:=by kernel_rfl
theorem liesBuilder:liesAt Tryz.prog Tryz.prog.depth 131 (2 / Tryz.prog.cellsOf 131) 0 131 1=true:=by kernel_rfl
theorem infoByte:(Tryz.prog.info? 5).map (fun i=>(i.zero,i.size,i.bytes))=some (some (.int .u8 0),1,1):=by kernel_rfl
theorem cellsByte:Tryz.prog.cellsOf 5=1:=by kernel_rfl
theorem infoParts:∃ i:TypeInfo,Tryz.prog.info? 5=some i/\i.zero=some (.int .u8 0)/\i.size=1/\i.bytes=1:=by
 obtain ⟨i,h1,h2⟩:=Option.map_eq_some_iff.1 infoByte;simp only [Prod.mk.injEq] at h2;exact ⟨i,h1,h2⟩
set_option maxHeartbeats 2000000 in
set_option maxRecDepth 100000 in
theorem copy_used (b:Nat) (w:World) (h0:w.cell? ⟨b,0,none⟩=some (.pointer (some ⟨b,0,none⟩))) :
  Calls Tryz.prog 84 #[.pointer (some ⟨b,0,none⟩)] w fun e w'=>e=.returned (.tuple #[])/\w'=w:=by
 obtain ⟨j,hj,_⟩:=Option.map_eq_some_iff.1 sizeBuilder
 go_enter Tryz.func84,Tryz.ntmps84
 go_wp2
 rw [Lib.run_neq_ptr_same w _ Tryz.underlying129 hj]
 go_wp2
 go_end0
 exact ⟨rfl,rfl⟩
set_option maxHeartbeats 2000000 in
set_option maxRecDepth 100000 in
theorem copy_fresh (b:Nat) (w:World) (h0:w.cell? ⟨b,0,none⟩=some (.pointer none)) (hsh:w.shape? b=some (131,2)) (hfz:w.frozen? ⟨b,0,none⟩=false) :
  Calls Tryz.prog 84 #[.pointer (some ⟨b,0,none⟩)] w fun e w'=>e=.returned (.tuple #[])/\w'=w.setCell ⟨b,0,none⟩ (.pointer (some ⟨b,0,none⟩)):=by
 obtain ⟨j,hj,hjs⟩:=Option.map_eq_some_iff.1 sizeBuilder
 go_enter Tryz.func84,Tryz.ntmps84
 go_wp2
 rw [Lib.run_to_unsafe w ⟨b,0,none⟩ Tryz.underlying129 Tryz.underlying190 hj (by rw [hjs];decide) hsh (Nat.zero_lt_succ 1)];simp only [Result.andThen];rw [Oper.upon_value]
 go_wp2
 rw [run_callFunc_extern Tryz.func104 (by kernel_rfl) (by kernel_rfl) (by kernel_rfl) (e:=Extern.AbiNoEscape.same) (by kernel_rfl)];rw [Lib.run_noEscape];simp only [Result.andThen];rw [Oper.upon_value]
 go_wp2
 rw [Lib.run_from_unsafe w ⟨b,0,none⟩ Tryz.underlying190 Tryz.underlying129 hj hsh liesBuilder];simp only [Result.andThen];rw [Oper.upon_value]
 go_wp2
 go_end0
 exact ⟨rfl,rfl⟩
structure Same (b:Nat) (w w':World):Prop where
 os:w'.os=w.os
 tape:w'.tape=w.tape
 output:w'.output=w.output
 size:w'.heap.size=w.heap.size
 block:∀ k,k≠b->w'.heap[k]? = w.heap[k]?
theorem Same.set (b i:Nat) (w:World) (u:Value):Same b w (w.setCell ⟨b,i,none⟩ u):=
 ⟨rfl,rfl,rfl,by simp [World.setCell],fun k hk=>Below.heap_setCell w ⟨b,i,none⟩ u k hk⟩
theorem set0 {w:World} {b:Nat} {p v q:Value} {t:TypeId} {fr:Nat×Nat} (hb:w.heap[b]? = some (.cells #[p,v] t fr)):(w.setCell ⟨b,0,none⟩ q).heap[b]? = some (.cells #[q,v] t fr):=by
 simp [World.setCell,Array.getElem?_modify,hb]
theorem set1 {w:World} {b:Nat} {p v q:Value} {t:TypeId} {fr:Nat×Nat} (hb:w.heap[b]? = some (.cells #[p,v] t fr)):(w.setCell ⟨b,1,none⟩ q).heap[b]? = some (.cells #[p,q] t fr):=by
 simp [World.setCell,Array.getElem?_modify,hb]
theorem copy (b:Nat) (w:World) (p v:Value) (hb:w.heap[b]? = some (.cells #[p,v] 131 (0,0))) (hp:p=.pointer none∨p=.pointer (some ⟨b,0,none⟩)) :
  Calls Tryz.prog 84 #[.pointer (some ⟨b,0,none⟩)] w fun e w'=>e=.returned (.tuple #[])/\w'.heap[b]? = some (.cells #[.pointer (some ⟨b,0,none⟩),v] 131 (0,0))/\Same b w w':=by
 rcases hp with rfl | rfl
 ·refine (copy_fresh b w (by rw [Lib.cell_of_heap hb];rfl) (by simp [World.shape?,hb]) (Lib.frozen_of_heap hb 0)).mono ?_;rintro e w' ⟨rfl,rfl⟩;exact ⟨rfl,set0 hb,Same.set b 0 w _⟩
 ·refine (copy_used b w (by rw [Lib.cell_of_heap hb];rfl)).mono ?_;rintro e w' ⟨rfl,rfl⟩;exact ⟨rfl,hb,rfl,rfl,rfl,rfl,fun _ _=>rfl⟩
theorem owns_same {w w':World} {e n:Nat} {v:Value} {xs:List Value} (h:w.ownsRow 0 e 1 v n xs) (hk:∀ k,v.ownBlock=some k->w'.heap[k]? = w.heap[k]?):w'.ownsRow 0 e 1 v n xs:=by
 obtain ⟨h1,h2⟩:=h;refine ⟨h1,?_⟩;rcases h2 with h | ⟨g,cap,cur,rfl,h4,h5,h6⟩
 ·exact .inl h
 ·exact .inr ⟨g,cap,cur,rfl,h4,(hk g rfl).trans h5,h6⟩
set_option maxHeartbeats 2000000 in
set_option maxRecDepth 100000 in
theorem write (b:Nat) (w:World) (p v:Value) (n:Nat) (xs:List Value) (s:ByteArray) (hb:w.heap[b]? = some (.cells #[p,v] 131 (0,0))) (hp:p=.pointer none∨p=.pointer (some ⟨b,0,none⟩)) (hown:w.ownsRow 0 5 1 v n xs) (hne:v.ownBlock≠some b) (hlen:n+s.size<=140737488355328) :
  Calls Tryz.prog 54 #[.pointer (some ⟨b,0,none⟩),.string s] w fun e w'=>e=.returned (.tuple #[.int .i64 s.size,.nilIface]) /\
   ∃ v',w'.heap[b]? = some (.cells #[.pointer (some ⟨b,0,none⟩),v'] 131 (0,0))/\w'.ownsRow 0 5 1 v' (n+s.size) (xs++Lib.strCells s)/\(∀ k,v'.ownBlock=some k->v.ownBlock=some k∨w.heap.size<=k) /\
    w'.os=w.os/\w'.tape=w.tape/\w'.output=w.output/\w.heap.size<=w'.heap.size/\∀ k,k<w.heap.size->k≠b->v.ownBlock≠some k->w'.heap[k]? = w.heap[k]?:=by
 obtain ⟨i0,hi,hz0,hz1,hz2⟩:=infoParts;have ecopy:∀ args w,(callFunc 84 args).run Tryz.prog w=.ok (.enter 84 args) w:=enters_of Tryz.func84 (by kernel_rfl) rfl;have hblt:b<w.heap.size:=by
  rcases Nat.lt_or_ge b w.heap.size with h' | h'
  ·exact h'
  ·simp [Array.getElem?_eq_none h'] at hb
 go_enter Tryz.func54,Tryz.ntmps54
 go_wp2_with (go_at_fn 84;refine (copy b _ p v hb hp).mono ?_)
 rintro e w1 ⟨rfl,hbk,hs1⟩;have hown1:w1.ownsRow 0 5 1 v n xs:=owns_same hown fun k hk=>hs1.block k (fun e=>hne (by rw [hk,e]));have c0:w1.cell? ⟨b,0,none⟩=some (.pointer (some ⟨b,0,none⟩)):=by rw [Lib.cell_of_heap hbk];rfl
 have c1:w1.cell? ⟨b,1,none⟩=some v:=by rw [Lib.cell_of_heap hbk];rfl
 go_wp2_with (at_builtin;refine Apj rfl _ _ 101 9 rfl 5 i0 Tryz.underlying101 Tryz.underlying9 hi hz0 hz1 hz2 _ _ _ rfl hown1 s rfl hlen ?_)
 intro v' w2 hown' hgrow hnew;have hlt:b<w1.heap.size:=by rw [hs1.size];exact hblt
 have hb2:w2.heap[b]? = some (.cells #[.pointer (some ⟨b,0,none⟩),v] 131 (0,0)):=by
  rw [hgrow.block b hlt (fun e=>hne e.symm)];exact hbk
 have d0:w2.cell? ⟨b,0,none⟩=some (.pointer (some ⟨b,0,none⟩)):=by rw [Lib.cell_of_heap hb2];rfl
 have d1:w2.cell? ⟨b,1,none⟩=some v:=by rw [Lib.cell_of_heap hb2];rfl
 have f1:w2.frozen? ⟨b,1,none⟩=false:=Lib.frozen_of_heap hb2 1;obtain ⟨ao,n',cap,rfl⟩:∃ ao n' cap,v'=.slice ao n' cap:=by
  rcases hown'.2 with ⟨hv,_⟩ | ⟨g,cap,cur,hv,_⟩
  ·exact ⟨_,_,_,hv⟩
  ·exact ⟨_,_,_,hv⟩
 go_wp2
 go_ret2
 have hnb:∀ k,(Value.slice ao n' cap).ownBlock=some k->k≠b:=fun k hk e=>by
  rcases hnew k hk with h | h
  ·exact hne (by rw [h,e])
  ·omega
 refine ⟨rfl,_,set1 hb2,owns_same hown' fun k hk=>(Same.set b 1 w2 _).block k (hnb k hk),fun k hk=>?_,?_,?_,?_,?_,fun k hk h1 h2=>?_⟩
 ·rw [← hs1.size];exact hnew k hk
 ·exact hgrow.os.trans hs1.os
 ·exact hgrow.tape.trans hs1.tape
 ·exact hgrow.output.trans hs1.output
 ·have:=(Same.set b 1 w2 (.slice ao n' cap)).size;have:=hgrow.size;have:=hs1.size;omega
 ·rw [(Same.set b 1 w2 _).block k h1,hgrow.block k (by rw [hs1.size];exact hk) (fun e=>h2 e.symm),hs1.block k h1]
end Go.Own.Bld
