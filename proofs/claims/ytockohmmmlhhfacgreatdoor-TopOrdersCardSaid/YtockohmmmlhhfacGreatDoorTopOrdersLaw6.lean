/- What the functions answer. No conditions. -/
import Derived.RangeFuncBox
import Derived.RangeFuncLeaves
import Derived.Shelf.Abstract
import Derived.WalkKit
import Derived.OwnWalkIn
import Derived.TacticsInMore
import Derived.LoopNIn
import Derived.LoopIn
import Derived.Maps.AppendAt
import Derived.Test.YtockohmmmlhhfacGreatDoorProg
import Derived.Test.YtockohmmmlhhfacGreatDoorOwn29
set_option linter.all false
namespace Go.Own.Col56
open Go.Proofs Go.Lib Go.RowKit Go.Shelf
attribute [local go_sem] Oper.semAt_some
set_option maxRecDepth 100000 in
set_option maxHeartbeats 4000000 in
theorem vals (F:Fence) (n:Nat) (h7:F.fn 58) (hro:F.round=none) (hn:1<=n) (l Bs Bo n₀ b off len cap:Nat) (zs:List Int) (hreach:len*8<=140737488351232) (hb:b<n₀) (J Jx:List Int->World->Prop)
  (hY:∀ pre x W,J pre W->pre.length<len->YieldAt F (n-1) Tryz.prog l #[.int .i64 x] W fun e W'=>
   (e=.returned (.bool true)/\J (pre++[x]) W'/\Below n₀ W W')∨(e=.returned (.bool false)/\Jx (pre++[x]) W'))
  (W:World) (hBs:W.cell? ⟨Bs,Bo,none⟩=some (.slice (some ⟨b,off,none⟩) len cap)) (hc:∀ j,j<len->W.cell? ⟨b,off+j,none⟩=some (.int .i64 (zs[j]?.getD 0))) (h0:J [] W) :
  CallsIn F n Tryz.prog 58 #[.func (.yield l) #[] #[],.pointer (some ⟨Bs,Bo,none⟩)] W fun e W'=>(∃ v,e=.returned v) /\
   ((∃ ys,ys=upto zs len/\J ys W')∨(∃ pre,(∃ k,k<=len/\pre=upto zs k)/\Jx pre W')):=by
 refine callsIn_of_wp Tryz.func58 rfl h7 ?_ hro;simp only [Tryz.ntmps58,List.size_toArray,List.length_cons,List.length_nil,Nat.reduceAdd,Nat.reduceSub,Array.replicate_succ,Array.replicate_zero,List.push_toArray,List.append_toArray,List.nil_append,List.cons_append]
 gi_wp2
 gi_loopw [7] (fun i wr=>∃ k:Nat,k<=len/\i=.int .i64 k/\J (upto zs k) wr/\Below n₀ W wr)
  (fun i _=>len-(intOf i).toNat)
 case atStart=>exact ⟨0,Nat.zero_le _,rfl,h0,Below.refl _ _⟩
 case round=>
  obtain ⟨k,hk,rfl,hJs,hnx⟩:=hrel;have hcx:k<len->wr.cell? ⟨b,off+k,none⟩=some (.int .i64 (zs[k]?.getD 0)):=fun h=>(hnx.cell (p:=⟨b,off+k,none⟩) hb).trans (hc k h);by_cases hlt:k<len
  ·obtain ⟨fn,tmps,assign,body,hy,hR⟩:=hY _ (zs[k]?.getD 0) wr hJs (by rw [Aw4];exact hlt);have hcx':=hcx hlt
   gi_wp2
   refine hR.mono ?_;rintro e W3 (⟨rfl,hJ3,hk3⟩ | ⟨rfl,hJx3⟩)
   ·gi_wp2
    go_roundw
    case rel=>exact ⟨k+1,by omega,by simp,by rw [Asq];exact hJ3,hnx.trans hk3⟩
    case measure=>simp [intOf];omega
   ·gi_wp2
    refine bodyPost_ret (results_none rfl _ _ _) rfl ?_;exact ⟨⟨_,rfl⟩,.inr ⟨_,⟨k+1,by omega,(Asq _ _).symm⟩,hJx3⟩⟩
  ·obtain rfl:k=len:=by omega
   gi_wp2
   go_end0
   exact ⟨⟨_,rfl⟩,.inl ⟨_,rfl,hJs⟩⟩
set_option maxRecDepth 100000 in
set_option maxHeartbeats 2000000 in
theorem vals0 (F:Fence) (n:Nat) (h7:F.fn 58) (hro:F.round=none) (l Bs Bo c:Nat) (A:Option Addr) (J:List Int->World->Prop) (W:World) (hBs:W.cell? ⟨Bs,Bo,none⟩=some (.slice A 0 c)) (h0:J [] W) :
  CallsIn F n Tryz.prog 58 #[.func (.yield l) #[] #[],.pointer (some ⟨Bs,Bo,none⟩)] W fun e W'=>(∃ v,e=.returned v)/\J [] W':=by
 refine callsIn_of_wp Tryz.func58 rfl h7 ?_ hro;simp only [Tryz.ntmps58,List.size_toArray,List.length_cons,List.length_nil,Nat.reduceAdd,Nat.reduceSub,Array.replicate_succ,Array.replicate_zero,List.push_toArray,List.append_toArray,List.nil_append,List.cons_append]
 gi_wp2
 gi_loopw [7] (fun i wr=>i=.int .i64 0/\J [] wr) (fun _ _=>0)
 case atStart=>exact ⟨rfl,h0⟩
 case round=>
  obtain ⟨rfl,hJs⟩:=hrel
  gi_wp2
  go_end0
  exact ⟨⟨_,rfl⟩,hJs⟩
theorem stops (F:Fence) (n:Nat) (h7:F.fn 58) (hro:F.round=none) (hn:1<=n) (Bs Bo n₀:Nat) (sv:Value) (zs:List Int) (hreach:zs.length*8<=140737488351232) (w0 w:World) (hw0:n₀=w0.heap.size) (hn₀:n₀<=w.heap.size) (hb:Below n₀ w0 w)
  (hc:w0.cell? ⟨Bs,Bo,none⟩=some sv) (hI:Aou w0 sv zs) :
  SeqStopsK F n Tryz.prog 58 #[.pointer (some ⟨Bs,Bo,none⟩)] (fun x:Int=>#[Value.int .i64 x]) (Below n₀) (fun ys=>ys=zs) (fun pre=>pre <+: zs) zs.length w:=fun l J Jx W hW _ _ hY h0=>by
 have hlt:∀ {a:Addr} {v:Value},w0.cell? a=some v->a.block<n₀:=fun {a v} h=>by
  rw [hw0];rcases Nat.lt_or_ge a.block w0.heap.size with h' | h'
  ·exact h'
  ·simp [World.cell?,Array.getElem?_eq_none h'] at h
 have hbW:Below n₀ w0 W:=hb.trans (hW.mono hn₀);have hc':=(hbW.cell (p:=⟨Bs,Bo,none⟩) (hlt hc)).trans hc;rcases hI with ⟨rfl,A,c,rfl⟩ | ⟨b,off,cap,rfl,hcs⟩
 ·exact (vals0 F n h7 hro l Bs Bo c A J W hc' h0).mono fun e W' ⟨he,hj⟩=>⟨he,.inl ⟨_,rfl,hj⟩⟩
 ·by_cases hz:zs=[]
  ·subst hz;exact (vals0 F n h7 hro l Bs Bo cap _ J W hc' h0).mono fun e W' ⟨he,hj⟩=>⟨he,.inl ⟨_,rfl,hj⟩⟩
  ·have hbn:b<n₀:=hlt (hcs 0 (List.length_pos_iff.2 hz));refine (vals F n h7 hro hn l Bs Bo n₀ b off zs.length cap zs hreach hbn J Jx hY W hc' (fun j hj=>(hbW.cell (p:=⟨b,off+j,none⟩) hbn).trans (hcs j hj)) h0).mono ?_;rintro e W' ⟨he,⟨ys,rfl,hj⟩ | ⟨pre,⟨k,hk,rfl⟩,hj⟩⟩
   ·exact ⟨he,.inl ⟨_,Bbz zs,hj⟩⟩
   ·exact ⟨he,.inr ⟨_,by rw [Asr zs hk];exact List.take_prefix _ _,hj⟩⟩
theorem own_none {W:World} {base e size k:Nat} {v:Value} {xs:List Value} (hr:W.ownsRow base e size v k xs):v=.slice none 0 0∨v.ownBlock≠none:=by
 rcases hr.2 with ⟨rfl,_⟩ | ⟨g,cap,cur,rfl,_⟩
 ·exact .inl rfl
 ·exact .inr (fun e=>by simp [Value.ownBlock] at e)
theorem cell1 (W:World) (x:Int) (t:Nat) (j:Nat) (u:Value) (hj:[Value.int .i64 x][j]? = some u):(W.alloc (.cells #[.int .i64 x] t)).cell? ⟨W.heap.size,0+j,none⟩=some u:=by
 cases j with
 | zero=>simp at hj;subst hj;simp
 | succ j=>simp at hj
theorem infoE:(Tryz.prog.info? 3).map (fun i=>(i.zero,i.size,i.bytes))=some (some (.int .i64 0),1,8):=by kernel_rfl
set_option maxRecDepth 100000 in
set_option maxHeartbeats 4000000 in
theorem app (F:Fence) (n:Nat) (hA:F.fn 84) (hV:F.fn 58) (hro:F.round=none) (hn:3<=n) (Bs Bo:Nat) (sv:Value) (zs:List Int) (hbytes:zs.length*8<=140737488351232) (w:World) (hBs:w.cell? ⟨Bs,Bo,none⟩=some sv) (hI:Aou w sv zs) :
  CallsIn F n Tryz.prog 84 #[.slice none 0 0,.func (.func 58) #[] #[.pointer (some ⟨Bs,Bo,none⟩)]] w fun e W'=>∃ v,e=.returned v/\W'.ownsRow w.heap.size 3 1 v zs.length (zs.map (Value.int .i64))/\(zs=[]->v=.slice none 0 0)/\Adk W' v/\Below w.heap.size w W':=by
 have h1:1<=n:=by omega
 obtain ⟨i0,hi,hz0,hz1,hz2⟩:=info_parts infoE;refine callsIn_of_wp_marks Tryz.func84 rfl hA ?_ hro;simp only [Tryz.ntmps84,List.size_toArray,List.length_cons,List.length_nil,Nat.reduceAdd,Nat.reduceSub,Array.replicate_succ,Array.replicate_zero,List.push_toArray,List.append_toArray,List.nil_append,List.cons_append]
 gi_wp2
 have bO:=Boxed.new w 35 (.slice none 0 0);have hB0:Below w.heap.size w (w.alloc (.cells #[.slice none 0 0] 35)):=(Below.refl _ w).alloc (Nat.le_refl _) _;refine wpIn_rangeFunc_ownF hro h1 (gf:=58) (lb:=#[.pointer (some ⟨Bs,Bo,none⟩)]) rfl hV (enters_of Tryz.func58 (by kernel_rfl) rfl)
  (stops F (n-1) hV hro (by omega) Bs Bo w.heap.size sv zs hbytes w (w.alloc (.cells #[.slice none 0 0] 35)) rfl (by simp) hB0 hBs hI) belowK_t (belowK_b (by simp)) (Below.refl _ _) (fun _=>rfl)
  (fun pre W=>(∃ v,Boxed W w.heap.size 35 v/\W.ownsRow w.heap.size 3 1 v pre.length (pre.map (Value.int .i64))/\Adk W v/\(pre=[]->v=.slice none 0 0))/\Below w.heap.size w W)
  (fun _ _ _=>False)
  (OwnFrom.and (Own.from (Au2 w.heap.size w.heap.size 35 3 1 (fun pre=>pre.length) (fun pre=>pre.map (Value.int .i64)) (fun pre v=>pre=[]->v=.slice none 0 0)) _) (ownFrom_below (Nat.le_refl _) (by simp)))
  (fun _ _ _ _ _ hs _ _=>hs)
  ⟨⟨_,bO,World.ownsRow_nil _ _ _ _,Ala,fun _=>rfl⟩,hB0⟩
  (fun x=>{ tmps:=#[.slice none 0 0,.func (.func 58) #[] #[.pointer (some ⟨Bs,Bo,none⟩)],.pointer (some ⟨w.heap.size,0,none⟩),undef,.slice none 0 0,.int .i64 x,.func (.func 58) #[] #[.pointer (some ⟨Bs,Bo,none⟩)],.int .i64 x,undef,undef,undef,undef,undef],defers:=[] }) ?assign ?body ?done ?stop
 case assign=>
  intro l x W K hK
  gi_wp2
  exact hK
 case body=>
  rintro l pre x W ⟨⟨v,hv,hrow,hone,hnil⟩,hB⟩ hlt;have hc:=hv.cell
  gi_wp2_with (gi_at_builtin;refine Aot rfl _ _ 35 3 rfl Tryz.underlying35 hi hz0 hz1 hz2 rfl (by simp [Value.oneCell',Value.cells]) (xs:=pre.map (Value.int .i64)) (news:=[.int .i64 x]) (m:=1) rfl rfl (hrow.alloc _) (Ahc hrow hone (World.grownBy_alloc W _ none) (own_none hrow)) (Ajs rfl (cell1 W x 3)) (by simp [Value.oneCell']) (by unfold maxLen;omega) (by omega) (by have:=hB.size;simp;omega) ?_;intro v' w1 hown' hgrow _ hone';obtain ⟨g',cap',rfl⟩:=ownsRow_succ hown';obtain ⟨hv1,hv2,hr2,hk2,hb2⟩:=hv.appended (by decide) hrow hB.size (Nat.le_refl _) hown' hgrow;have hc1:=hv1.cell;have hf1:=hv1.frozen)
  exact ⟨hk2,hb2,⟨_,hv2,by simpa using hr2,Ahc hown' hone' (grownBy_setCell' w1 _ _) (.inr (hv1.not_row (by decide) hown').symm),by simp⟩,hB.trans hb2⟩
 case done=>
  rintro D ys W hD rfl ⟨⟨v,hv,hrow,hone,hnil⟩,hB⟩ hK;have hc:=hv.cell
  gi_wp2
  refine ⟨by simp,.inl ⟨_,_,rfl,run_takeDeferred hK,?_⟩⟩;exact ⟨_,results_tmp rfl _ _ _,v,rfl,ownsRow_putObj hrow _ hK rfl,hnil,Ahc hrow hone (grownBy_putObj' W D _) (Aip hrow (fun r e=>by cases e;exact ⟨_,hK,rfl⟩)),hB.trans (belowK_b (w:=w) (Nat.le_refl _) W D _ _ (by simp at hD;omega) hK rfl rfl)⟩
 case stop=>
  rintro D c pre W _ _ h _;exact h.elim
set_option maxRecDepth 100000 in
set_option maxHeartbeats 2000000 in
theorem ok:CollectOK Tryz.prog 56 58 3 8:=⟨fun Bs Bo sv zs w hBs hI hb=>by
 refine (callsIn_wide (n:=4)).1 ?_;refine callsIn_of_wp Tryz.func56 rfl trivial ?_ rfl;simp only [Tryz.ntmps56,List.size_toArray,List.length_cons,List.length_nil,Nat.reduceAdd,Nat.reduceSub,Array.replicate_succ,Array.replicate_zero,List.push_toArray,List.append_toArray,List.nil_append,List.cons_append]
 gi_wp2
 refine ⟨trivial,(app Fence.wide 3 trivial trivial rfl (by omega) Bs Bo sv zs hb w hBs hI).mono ?_⟩;rintro e w' ⟨v,rfl,q1,q2,q3,q4⟩
 gi_wp2
 refine bodyPost_ret (results_tmp rfl _ _ _) rfl ?_
 exact ⟨v,rfl,q1,q2,q3,q4⟩⟩
set_option maxRecDepth 100000 in
set_option maxHeartbeats 2000000 in
theorem okV:ValuesOK Tryz.prog 27 58 35:=⟨fun A n c w=>by
 refine (callsIn_wide (n:=4)).1 ?_;refine callsIn_of_wp Tryz.func27 rfl trivial ?_ rfl;simp only [Tryz.ntmps27,List.size_toArray,List.length_cons,List.length_nil,Nat.reduceAdd,Nat.reduceSub,Array.replicate_succ,Array.replicate_zero,List.push_toArray,List.append_toArray,List.nil_append,List.cons_append]
 gi_wp2
 refine bodyPost_ret (results_tmp rfl _ _ _) rfl ?_
 exact ⟨rfl,rfl⟩⟩
end Go.Own.Col56
