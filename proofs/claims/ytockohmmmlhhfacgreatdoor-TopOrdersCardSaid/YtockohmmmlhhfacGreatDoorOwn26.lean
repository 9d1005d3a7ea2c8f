/- An interpreter of function bodies, sound. No conditions. -/
import Derived.Test.YtockohmmmlhhfacGreatDoorOwn25
import Derived.Test.YtockohmmmlhhfacGreatDoorOwn18
set_option linter.all false
namespace Go.Own
open Go.Lib Go.RowKit
section
variable {P:Program} {w:World}
def Adk (w:World) (v:Value):Prop:=∀ g cur e,v.ownBlock=some g->w.heap[g]? = some (.cells cur e (0,0))->∀ u∈cur.toList,u.oneCell'=true
theorem Ala:Adk w (.slice none 0 0):=fun _ _ _ h=>by cases h
theorem Azy {z:Value} (hz1:∀ u∈z.cells.toList,u.oneCell'=true) {n:Nat}:∀ u∈(Builtin.zeroCells z.cells n).toList,u.oneCell'=true:=by
 intro u hu;rw [Acz] at hu;by_cases hp:0<z.cells.size
 ·have:=Ac4 z.cells hp n;rw [this] at hu;obtain ⟨l,hl,hu⟩:=List.mem_flatten.1 hu;rw [List.eq_of_mem_replicate hl] at hu;exact hz1 u hu
 ·have h0:z.cells.size=0:=by omega
  rw [← Acz] at hu;have:=size_zeroCells z.cells n;rw [h0,Nat.mul_zero] at this;have:(Builtin.zeroCells z.cells n).toList=[]:=List.eq_nil_of_length_eq_zero (by simpa using this);rw [this] at hu;cases hu
theorem Avv {t ty e:Nat} {i:TypeInfo} {z:Value} {k by_:Nat} (ht:P.underlying t=some (.slice e)) (hi:P.info? e=some i) (hz:i.zero=some z) (hk:i.size=k) (hb:i.bytes=by_) (hzk:z.cells.size=k) (hz1:∀ u∈z.cells.toList,u.oneCell'=true)
  {base n m:Nat} {v y:Value} {xs news:List Value} (hown:w.ownsRow base e k v n xs) (hro:Adk w v) (hy:Gives P w k m y news) (h1:∀ u∈news,u.oneCell'=true) (hmx:n+m<=maxLen) (hby:(n+m)*by_<=140737488355328) (hbase:base<=w.heap.size) :
  ∃ v' w',(Builtin.append_ #[t,t] ty #[v,y]).run P w=.ok v' w'/\w'.ownsRow base e k v' (n+m) (xs++news)/\w.grownBy w' v.ownBlock/\(n+m=0->v=.slice none 0 0->v'=.slice none 0 0)/\Adk w' v':=by
 subst hk;subst hb;have hu:rowT P t=true:=by unfold rowT;rw [ht]
 have hlen:(xs++news).length=(n+m)*i.size:=by rw [List.length_append,hown.1,hy.len,Nat.add_mul]
 have hxs:∀ u∈xs,u.oneCell'=true:=fun u hu=>by
  rcases hown.2 with ⟨rfl,rfl⟩ | ⟨g,cap,cur,rfl,hbg,hg,hnc,hcm,hcs,htake⟩
  ·have hx:xs=[]:=List.eq_nil_of_length_eq_zero (by simpa using hown.1);rw [hx] at hu;cases hu
  ·rw [← htake] at hu;exact hro g cur e rfl hg u (List.mem_of_mem_take hu)
 have grown:∀ (old:Nat),old<n+m->∀ (row:Option Nat),
   (w.drew.alloc (.cells (xs.toArray++news.toArray++Builtin.zeroCells z.cells (grownCap w (n+m) old e-(n+m))) e)).ownsRow base e i.size
    (.slice (some ⟨w.heap.size,0,none⟩) (n+m) (grownCap w (n+m) old e)) (n+m) (xs++news) /\
   w.grownBy (w.drew.alloc (.cells (xs.toArray++news.toArray++Builtin.zeroCells z.cells (grownCap w (n+m) old e-(n+m))) e)) row /\
   Adk (w.drew.alloc (.cells (xs.toArray++news.toArray++Builtin.zeroCells z.cells (grownCap w (n+m) old e-(n+m))) e)) (.slice (some ⟨w.heap.size,0,none⟩) (n+m) (grownCap w (n+m) old e)):=by
  intro old ho row;have hge:=grownCap_ge w (n+m) old e;have hcm:grownCap w (n+m) old e<=maxLen:=grownCap_le_maxLen w (n+m) old e hmx;refine ⟨⟨hlen,.inr ⟨w.heap.size,_,_,rfl,hbase,heap_alloc_new w.drew _,hge,hcm,?_,?_⟩⟩,⟨rfl,rfl,rfl,by simp,fun k hk _=>Lib.alloc_old w.drew _ k hk⟩,?_⟩
  case refine_3=>
   intro g cur e' hg hc u hu;simp only [Value.ownBlock,zJ] at hg;subst hg;have hn:=heap_alloc_new w.drew (.cells (xs.toArray++news.toArray++Builtin.zeroCells z.cells (grownCap w (n+m) old e-(n+m))) e);have hq:(w.drew.alloc (.cells (xs.toArray++news.toArray++Builtin.zeroCells z.cells (grownCap w (n+m) old e-(n+m))) e)).heap[w.heap.size]? = some (.cells (xs.toArray++news.toArray++Builtin.zeroCells z.cells (grownCap w (n+m) old e-(n+m))) e (0,0)):=hn;rw [hq] at hc;simp only [zJ,Obj.cells.injEq] at hc;rw [← hc.1] at hu;simp only [Array.toList_append,List.mem_append] at hu;rcases hu with (hu | hu) | hu
   ·exact hxs u hu
   ·exact h1 u hu
   ·exact Azy hz1 u hu
  ·simp only [Array.size_append,List.size_toArray,size_zeroCells,hzk,hown.1,hy.len,← Nat.add_mul];congr 1;omega
  ·simp only [Array.toList_append,List.append_assoc];rw [← List.append_assoc,← hlen];exact List.take_left
 rcases hown.2 with ⟨rfl,rfl⟩ | ⟨g,cap,cur,rfl,hbg,hg,hnc,hcm,hcs,htake⟩
 ·have hx:xs=[]:=List.eq_nil_of_length_eq_zero (by simpa using hown.1);subst hx;by_cases hm:m=0
  ·subst hm;have hn:news=[]:=List.eq_nil_of_length_eq_zero (by simpa using hy.len);subst hn;refine ⟨.slice none 0 0,w,?_,World.ownsRow_nil w base e i.size,⟨rfl,rfl,rfl,Nat.le_refl _,fun _ _ _=>rfl⟩,fun _ _=>rfl,Ala⟩;rw [Agh (ty:=ty) ht hu hi hy (Nat.le_refl _)];simp
  ·have hr:=Agg (ty:=ty) ht hu hi hz hy (base:=none) (sLen:=0) (sCap:=0) (olds:=[]) (fun w' _=>by simp [Builtin.firstCells]) (by omega) (by unfold maxLen at hmx;omega) (growslice_fits (by omega) hby);have hgr:=grown 0 (by omega) (Value.ownBlock (.slice none 0 0));exact ⟨_,_,hr,hgr.1,hgr.2.1,(fun h=>by omega),hgr.2.2⟩
 ·by_cases hroom:n+m<=cap
  ·have hfit:n*i.size+news.length<=cur.size:=by rw [hy.len,hcs,← Nat.add_mul];exact Nat.mul_le_mul_right _ hroom
   have hst:=run_storeCells_at P g (n*i.size) e news 0 cur w hg (by simpa using hfit) h1;simp only [Nat.add_zero] at hst;refine ⟨.slice (some ⟨g,0,none⟩) (n+m) cap,w.setRow g (cur.toList.take (n*i.size)++news++cur.toList.drop (n*i.size+news.length)).toArray,?_,⟨hlen,.inr ⟨g,cap,_,rfl,hbg,setRow_heap w g cur _ e _ hg,hroom,hcm,?_,?_⟩⟩,⟨rfl,rfl,rfl,by simp,fun k _ hk=>setRow_other w g k _ (fun e=>hk (by simp [Value.ownBlock,e]))⟩,(fun _ h=>by cases h),?_⟩
   ·rw [Agh (ty:=ty) ht hu hi hy hroom];simp only [Addr.add_plain,Nat.zero_add,Sem.run_bind,hst,Result.andThen_ok,Sem.run_pure]
   ·simp only [List.size_toArray,List.length_append,List.length_take,List.length_drop,Array.length_toList];omega
   ·rw [htake,← hlen];exact List.take_left
   ·intro g' cur' e' hg' hc u hu;simp only [Value.ownBlock,zJ] at hg';subst hg';rw [setRow_heap w g cur _ e _ hg] at hc;simp only [zJ,Obj.cells.injEq] at hc;rw [← hc.1] at hu;simp only [List.mem_append] at hu;rcases hu with (hu | hu) | hu
    ·exact hro g cur e rfl hg u (List.mem_of_mem_take hu)
    ·exact h1 u hu
    ·exact hro g cur e rfl hg u (List.mem_of_mem_drop hu)
  ·have holds:∀ j u,xs[j]? = some u->w.cell? ((⟨g,0,none⟩:Addr).add j)=some u:=hown.cells (g:=g) rfl;have hr:=Agg (ty:=ty) ht hu hi hz hy (base:=some ⟨g,0,none⟩) (sLen:=n) (sCap:=cap) (olds:=xs) (fun w' hw=>run_firstCells_some (P:=P) w' i.size n ⟨g,0,none⟩ n cap xs hown.1 fun j u hj=>by
    have:=holds j u hj;unfold World.cell? at this ⊢
    rw [hw];exact this) (by omega) (by unfold maxLen at hmx;omega) (growslice_fits (by omega) hby)
   have hgr:=grown cap (by omega) (Value.ownBlock (.slice (some ⟨g,0,none⟩) n cap));exact ⟨_,_,hr,hgr.1,hgr.2.1,(fun _ h=>by cases h),hgr.2.2⟩
end
def Ayj (P:Program) (w:World) (k n:Nat) (y:Value) (news:List Value):Prop:=∀ w':World,(∀ j,j<w.heap.size->w'.heap[j]? = w.heap[j]?)->Gives P w' k n y news
structure ConcatOK (P:Program) (f e k by_:Nat) (z:Value):Prop where
 two:∀ (b off c n1 n2 c1 c2:Nat) (A1 A2:Option Addr) (l1 l2:List Value) (w:World),w.cell? ⟨b,off,none⟩=some (.slice A1 n1 c1)->w.cell? ⟨b,off+1,none⟩=some (.slice A2 n2 c2)->Ayj P w k n1 (.slice A1 n1 c1) l1->Ayj P w k n2 (.slice A2 n2 c2) l2 ->
  (∀ u∈l1,u.oneCell'=true)->(∀ u∈l2,u.oneCell'=true)->n1+n2<=1000000000000000->(n1+n2)*by_<=140737488355328 ->
  Calls P f #[.slice (some ⟨b,off,none⟩) 2 c] w fun q w'=>∃ v',q=.returned v'/\w'.ownsRow w.heap.size e k v' (n1+n2) (l1++l2)/\(n1+n2=0->v'=.slice none 0 0)/\Adk w' v'/\Below w.heap.size w w'
 zk:z.cells.size=k
 kp:0<k
 bp:0<by_
end Go.Own
