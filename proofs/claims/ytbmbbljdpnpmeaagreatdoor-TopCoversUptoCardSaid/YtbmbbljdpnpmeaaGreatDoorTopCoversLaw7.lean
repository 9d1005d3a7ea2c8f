/- No conditions. -/
import Derived.Shelf.Lay
import Derived.Shelf.LaySoft
import Derived.Shelf.SlicesE.Clone
import Derived.Lib.JoinLaws
import Derived.Lib.AppendZerosOnto
import Derived.Test.YtbmbbljdpnpmeaaGreatDoorProg
import Derived.Test.YtbmbbljdpnpmeaaGreatDoorOwn20
import Derived.Test.YtbmbbljdpnpmeaaGreatDoorOwn30
set_option linter.all false
namespace Go.Own.Cat193
open Go.Proofs Go.Lib Go.RowKit Go.Shelf
theorem mixed:Tryz.prog.follows .mixedOrders=true:=by kernel_rfl
theorem infoE:(Tryz.prog.info? 37).map (fun i=>(i.size,i.bytes))=some (2,8):=by kernel_rfl
theorem zeroE:((Tryz.prog.info? 37).bind (·.zero)).map (fun z=>Nat.beq z.cells.size 2&&z.cells.toList.all Value.oneCell')=some true:=by kernel_rfl
set_option maxHeartbeats 4000000 in
set_option maxRecDepth 100000 in
theorem grow0 (w:World):Calls Tryz.prog 222 #[.slice none 0 0,.int .i64 0] w fun q w'=>q=.returned (.slice none 0 0)/\w'=w:=by
 have mixed:=mixed;have h2:wrap64 ((0:Int)-(0:Int))=0:=by unfold wrap64;omega
 go_enter Tryz.func222,Tryz.ntmps222
 go_wp2
 go_ret
 exact ⟨rfl,rfl⟩
set_option maxHeartbeats 4000000 in
set_option maxRecDepth 100000 in
theorem growN (i:TypeInfo) (z:Value) (hi:Tryz.prog.info? 37=some i) (hs:i.size=2) (hb:i.bytes=8) (hz:i.zero=some z) (hzk:z.cells.size=2) (hz1:∀ u∈z.cells.toList,u.oneCell'=true) (n:Nat) (h0:0<n) (hn:n<=1000000000000000) (hbig:n*8<=140737488355328) (w:World) :
  Calls Tryz.prog 222 #[.slice none 0 0,.int .i64 n] w fun q w'=>∃ v',q=.returned v'/\w'.ownsRow w.heap.size 37 2 v' 0 []/\Adp w' v'/\Below w.heap.size w w':=by
 have mixed:=mixed;have h1:¬ ((n:Int)<0):=by omega
 have h2:wrap64 ((0:Int)-(0:Int))=0:=by unfold wrap64;omega
 have h3:wrap64 ((n:Int)-0)=(n:Int):=by unfold wrap64;omega
 have h4:(n:Int) > 0:=by omega
 have hrz:∀ ty,(Builtin.append_ #[29,3] ty #[.slice none 0 0,.int .i64 (n:Int)]).run Tryz.prog w =
   .ok (.slice (some ⟨w.heap.size,0,none⟩) n (grownCap w n 0 37)) (w.drew.alloc (.cells (#[]++Builtin.zeroCells z.cells n++Builtin.zeroCells z.cells (grownCap w n 0 37-n)) 37)):=fun ty=>by
  have h:=Lib.run_append_grow_zeros w 29 3 ty 37 i z .i64 .i64 Tryz.underlying29 Tryz.underlying3 hi hz none 0 0 [] (run_firstCells_none w.drew i.size 0 0 0) n h0 (by rw [hs];decide) (by omega) (by omega) (by rw [hb];omega) (growslice_fits (by omega) (by rw [hb,Nat.zero_add];exact hbig));simp only [Nat.zero_add] at h;exact h
 have hge:n<=grownCap w n 0 37:=grownCap_ge w _ _ _;have hle:grownCap w n 0 37<=maxLen:=grownCap_le_maxLen w n 0 37 (by unfold maxLen;omega);have hzs:(#[]++Builtin.zeroCells z.cells n++Builtin.zeroCells z.cells (grownCap w n 0 37-n)).size=grownCap w n 0 37*2:=by
  simp only [Array.size_append,size_zeroCells,hzk,List.size_toArray,List.length_nil,Nat.zero_add,← Nat.add_mul];congr 1;omega
 have hone:∀ u∈(#[]++Builtin.zeroCells z.cells n++Builtin.zeroCells z.cells (grownCap w n 0 37-n)).toList,u.oneCell'=true:=by
  intro u hu;simp only [Array.toList_append,List.mem_append] at hu;rcases hu with (hu | hu) | hu
  ·cases hu
  ·exact Aor hz1 u hu
  ·exact Aor hz1 u hu
 obtain ⟨G,hG⟩:∃ G,G=grownCap w n 0 37:=⟨_,rfl⟩
 rw [← hG] at hrz hge hle hzs hone;obtain ⟨cs,hcs⟩:∃ cs,cs=#[]++Builtin.zeroCells z.cells n++Builtin.zeroCells z.cells (G-n):=⟨_,rfl⟩
 rw [← hcs] at hrz hzs hone;clear hG hcs;have fin0:∃ v',Ending.returned (.slice (some ⟨w.heap.size,0,none⟩) 0 G)=.returned v'/\(w.drew.alloc (.cells cs 37)).ownsRow w.heap.size 37 2 v' 0 []/\Adp (w.drew.alloc (.cells cs 37)) v'/\Below w.heap.size w (w.drew.alloc (.cells cs 37)):=
  ⟨_,rfl,⟨by simp,.inr ⟨w.heap.size,G,cs,rfl,Nat.le_refl _,heap_alloc_new w.drew _,Nat.zero_le _,hle,hzs,by simp⟩⟩,(fun g cur e' hg hc u hu=>by
   simp only [Value.ownBlock,zJ] at hg;subst hg;have hq:(w.drew.alloc (.cells cs 37)).heap[w.heap.size]? = some (.cells cs 37 (0,0)):=heap_alloc_new w.drew _;rw [hq] at hc;simp only [zJ,Obj.cells.injEq] at hc;rw [← hc.1] at hu;exact hone u hu),⟨rfl,rfl,rfl,by simp,fun k hk=>Lib.alloc_old w.drew _ k hk⟩⟩
 have A:Aside (0<=G/\G<=9223372036854775807):=⟨Nat.zero_le _,by unfold maxLen at hle;omega⟩
 have hG63:G<=9223372036854775807:=A.out.2;have fin:=(show Aside _ from fin0)
 clear fin0 hone hz1 hzs hle A hbig hn hb hs hz hzk hi
 go_enter Tryz.func222,Tryz.ntmps222
 go_wp2_with (at_builtin;refine Lib.wpList_append_run _ rfl _ _ _ _ rfl _ _ rfl rfl _ _ (hrz _) ?_)
 all_goals (go_ret;exact fin.out)
theorem cell_lt {w:World} {a:Addr} {v:Value} (h:w.cell? a=some v):a.block<w.heap.size:=by
 rcases Nat.lt_or_ge a.block w.heap.size with h' | h'
 ·exact h'
 ·simp [World.cell?,Array.getElem?_eq_none h'] at h
theorem cell_keep {w w':World} {a:Addr} {v:Value} (hb:∀ k,k<w.heap.size->w'.heap[k]? = w.heap[k]?) (h:w.cell? a=some v):w'.cell? a=some v:=by
 rw [World.cell?_of_block (hb _ (cell_lt h))];exact h
theorem below_own {w0 w w':World} {e size n:Nat} {v:Value} {xs:List Value} (h:Below w0.heap.size w0 w) (hown:w.ownsRow w0.heap.size e size v n xs) (hg:w.grownBy w' v.ownBlock):Below w0.heap.size w0 w':=by
 refine ⟨hg.os.trans h.os,hg.tape.trans h.tape,hg.output.trans h.output,Nat.le_trans h.size hg.size,fun k hk=>?_⟩;rw [hg.block k (Nat.lt_of_lt_of_le hk h.size) ?_]
 ·exact h.block k hk
 ·intro he;have:=(hown.lt k he.symm).1;omega
set_option maxHeartbeats 8000000 in
set_option maxRecDepth 100000 in
theorem two (i:TypeInfo) (z:Value) (hi:Tryz.prog.info? 37=some i) (hs:i.size=2) (hb:i.bytes=8) (hz:i.zero=some z) (hzk:z.cells.size=2) (hz1:∀ u∈z.cells.toList,u.oneCell'=true)
  (b off c n1 n2 c1 c2:Nat) (A1 A2:Option Addr) (l1 l2:List Value) (w:World) (h1:w.cell? ⟨b,off,none⟩=some (.slice A1 n1 c1)) (h2:w.cell? ⟨b,off+1,none⟩=some (.slice A2 n2 c2))
  (g1:Ajo Tryz.prog w 2 n1 (.slice A1 n1 c1) l1) (g2:Ajo Tryz.prog w 2 n2 (.slice A2 n2 c2) l2) (o1:∀ u∈l1,u.oneCell'=true) (o2:∀ u∈l2,u.oneCell'=true) (hn:n1+n2<=1000000000000000) (hbig:(n1+n2)*8<=140737488355328) :
  Calls Tryz.prog 193 #[.slice (some ⟨b,off,none⟩) 2 c] w fun q w'=>∃ v',q=.returned v'/\w'.ownsRow w.heap.size 37 2 v' (n1+n2) (l1++l2)/\(n1+n2=0->v'=.slice none 0 0)/\Adp w' v'/\Below w.heap.size w w':=by
 have mixed:=mixed;have hgr:Calls Tryz.prog 222 #[.slice none 0 0,.int .i64 ((n1:Int)+(n2:Int))] w fun q w'=>∃ v',q=.returned v'/\w'.ownsRow w.heap.size 37 2 v' 0 []/\(n1+n2=0->v'=.slice none 0 0)/\Adp w' v'/\Below w.heap.size w w':=by
  by_cases h0:n1+n2=0
  ·have e:((n1:Int)+(n2:Int))=0:=by omega
   rw [e];refine Calls.mono (grow0 w) ?_;rintro q w' ⟨rfl,rfl⟩;exact ⟨_,rfl,World.ownsRow_nil _ _ _ _,fun _=>rfl,Asx,Below.refl _ _⟩
  ·have e:((n1:Int)+(n2:Int))=((n1+n2:Nat):Int):=by omega
   rw [e];refine Calls.mono (growN i z hi hs hb hz hzk hz1 (n1+n2) (by omega) hn hbig w) ?_;rintro q w' ⟨v',rfl,q1,q2,q3⟩;exact ⟨_,rfl,q1,fun h=>absurd h h0,q2,q3⟩
 have e1:wrap64 (n1:Int)=n1:=by unfold wrap64;omega
 have e2:wrap64 ((n1:Int)+(n2:Int))=(n1:Int)+(n2:Int):=by unfold wrap64;omega
 have e3:¬ ((n1:Int)<0):=by omega
 have e4:¬ ((n1:Int)+(n2:Int)<0):=by omega
 have Z:Aside (∀ u∈z.cells.toList,u.oneCell'=true):=hz1;have A:Aside ((Ajo Tryz.prog w 2 n1 (.slice A1 n1 c1) l1)/\(Ajo Tryz.prog w 2 n2 (.slice A2 n2 c2) l2)/\(∀ u∈l1,u.oneCell'=true)/\(∀ u∈l2,u.oneCell'=true)):=⟨g1,g2,o1,o2⟩
 have G:Aside (Calls Tryz.prog 222 #[.slice none 0 0,.int .i64 ((n1:Int)+(n2:Int))] w fun q w'=>∃ v',q=.returned v'/\w'.ownsRow w.heap.size 37 2 v' 0 []/\(n1+n2=0->v'=.slice none 0 0)/\Adp w' v'/\Below w.heap.size w w'):=hgr;clear g1 g2 o1 o2 hgr hz1
 go_enter Tryz.func193,Tryz.ntmps193
 go_wp2
 refine wp_loop_rounds 3 ?_;rw [rounds_succ]
 go_wp2
 rw [rounds_succ]
 go_wp2
 rw [rounds_succ]
 go_wp2_with (go_at_call 222;refine (G.out).mono ?_;rintro q w1 ⟨v1,rfl,hown,hnil,hro,hbel⟩)
 have B:Aside (w1.ownsRow w.heap.size 37 2 v1 0 []/\(n1+n2=0->v1=.slice none 0 0)/\Below w.heap.size w w1/\Adp w1 v1):=⟨hown,hnil,hbel,hro⟩
 have p1:=cell_keep hbel.block h1;have p2:=cell_keep hbel.block h2;have L:Aside ((0+n1<=maxLen/\(0+n1)*8<=140737488355328)/\n1+n2<=maxLen/\(n1+n2)*8<=140737488355328):=⟨⟨by unfold maxLen;omega,by omega⟩,by unfold maxLen;omega,by omega⟩
 have H:Aside (w.cell? ⟨b,off,none⟩=some (.slice A1 n1 c1)/\w.cell? ⟨b,off+1,none⟩=some (.slice A2 n2 c2)):=⟨h1,h2⟩
 clear hown hnil hbel hro h1 h2 hbig;refine wp_loop_rounds 3 ?_;rw [rounds_succ]
 go_wp2_with (at_builtin;refine Ama rfl _ _ 29 37 rfl Tryz.underlying29 hi hz hs hb hzk Z.out rfl rfl B.out.1 B.out.2.2.2 (A.out.1 w1 B.out.2.2.1.block) A.out.2.2.1 L.out.1.1 L.out.1.2 B.out.2.2.1.size ?_)
 intro v2 w2 hown2 hgr2 hnil2 hro2;have B2:Aside (w2.ownsRow w.heap.size 37 2 v2 n1 l1/\(n1+n2=0->v2=.slice none 0 0)/\Below w.heap.size w w2/\Adp w2 v2):=⟨hown2,fun h=>hnil2 (by omega) (B.out.2.1 h),below_own B.out.2.2.1 B.out.1 hgr2,hro2⟩
 have p3:=cell_keep B2.out.2.2.1.block H.out.1;have p4:=cell_keep B2.out.2.2.1.block H.out.2;clear hown2 hgr2 hnil2 hro2 p1 p2
 go_wp2
 rw [rounds_succ]
 go_wp2_with (at_builtin;refine Ama rfl _ _ 29 37 rfl Tryz.underlying29 hi hz hs hb hzk Z.out rfl rfl B2.out.1 B2.out.2.2.2 (A.out.2.1 w2 B2.out.2.2.1.block) A.out.2.2.2 L.out.2.1 L.out.2.2 B2.out.2.2.1.size ?_)
 intro v3 w3 hown3 hgr3 hnil3 hro3;have B3:Aside (∃ v',Ending.returned v3=.returned v'/\w3.ownsRow w.heap.size 37 2 v' (n1+n2) (l1++l2)/\(n1+n2=0->v'=.slice none 0 0)/\Adp w3 v'/\Below w.heap.size w w3):=⟨_,rfl,hown3,fun h=>by first | exact hnil3 h (B2.out.2.1 h) | exact hnil3 (by omega) (by omega) (B2.out.2.1 h),hro3,below_own B2.out.2.2.1 B2.out.1 hgr3⟩
 clear hown3 hgr3 hnil3 hro3 p3 p4
 go_wp2
 rw [rounds_succ]
 go_wp2
 go_ret
 exact B3.out
theorem ok:∃ z,ConcatOK Tryz.prog 193 37 2 8 z:=by
 obtain ⟨i,hi,h2⟩:=Option.map_eq_some_iff.1 infoE;simp only [Prod.mk.injEq] at h2;have hz:=zeroE;rw [hi] at hz;obtain ⟨z,hz,hz2⟩:=Option.map_eq_some_iff.1 hz;rw [Bool.and_eq_true] at hz2;exact ⟨z,fun b off c n1 n2 c1 c2 A1 A2 l1 l2 w h1 h2' g1 g2 o1 o2 hn hb=>two i z hi h2.1 h2.2 hz (Nat.eq_of_beq_eq_true hz2.1) (fun u hu=>List.all_eq_true.1 hz2.2 u hu) b off c n1 n2 c1 c2 A1 A2 l1 l2 w h1 h2' g1 g2 o1 o2 hn hb,Nat.eq_of_beq_eq_true hz2.1,by decide,by decide⟩
end Go.Own.Cat193
