/- What the functions answer. No conditions. -/
import Derived.Shelf.SlicesE.Clone
import Derived.Lib.JoinLaws
import Derived.Test.YtmiedlcblpiemaaGreatDoorProg
import Derived.Test.YtmiedlcblpiemaaGreatDoorOwn21
import Derived.Test.YtmiedlcblpiemaaGreatDoorOwn31
set_option linter.all false
open Option renaming map_eq_some_iff->zA
open Array renaming size_push->zB,getElem?_push_size->zC,getElem?_push->zD
open Nat renaming le_succ->zE,le_refl->zF,eq_of_beq_eq_true->zG
open Bool renaming and_eq_true->zH
open List renaming all_eq_true->zI
open Prod.mk renaming injEq->zK
namespace Go.Own.Clo73
open Go.Proofs Go.Lib Go.RowKit Go.Shelf
def infoE:(Tryz.prog.info? 34).map (fun i=>(i.size,i.bytes))=some (1,4):=by kernel_rfl
def zeroE:((Tryz.prog.info? 34).bind (·.zero)).map (fun z=>Nat.beq z.cells.size 1&&z.cells.toList.all Value.oneCell')=some true:=by kernel_rfl
set_option maxHeartbeats 2000000 in
set_option maxRecDepth 100000 in
def empty(a:Addr)(c:Nat)(w:World):Calls Tryz.prog 73 #[.slice (some a) 0 c] w fun e w'=>e=.returned (.slice (some ⟨w.heap.size,0,none⟩) 0 0)/\w'.heap[w.heap.size]?=some (.cells #[] 34 (0,0))/\Below w.heap.size w w':=by
 have q22:∀(w:World)(a:Option Addr)(n c n' c':Nat),(binOp .eql 71 (.slice a n c) (.slice none n' c')).run Tryz.prog w=.ok (.bool a.isNone) w:=fun w a n c n' c'=>Lib.run_eql_slice_nil w _ _ a n c n' c' Tryz.underlying71;obtain⟨i,hi,h2⟩:=zA.1 infoE
 go_enter Tryz.func73,Tryz.ntmps73
 go_wp2_with (at_builtin;refine wpList_append_room_src _ rfl _ _ 71 71 rfl 34 i Tryz.underlying71 hi w.heap.size 0 0 0 rfl _ rfl 0 [] ?src (zF _) (by intro j hj;simp at hj) (by intro j hj;simp at hj) ?_)
 case src=>exact Src.ofSlice _ Tryz.underlying71 a 0 c [] (by simp) (by intro j u hj;simp at hj) (by intro u hu;cases hu)
 go_ret
 refine⟨rfl,?_,(Below.refl _ w).alloc (zF _) _⟩;show(w.heap.push (Obj.cells #[] 34))[w.heap.size]?=_;rw[zC]
set_option maxHeartbeats 2000000 in
set_option maxRecDepth 100000 in
def copied(i:TypeInfo)(z:Value)(hi:Tryz.prog.info? 34=some i)(hs:i.size=1)(hb:i.bytes=4)(hz:i.zero=some z)(b off n c:Nat)(news:List Value)(w:World)(hl:news.length=n*1)(h0:0<n)(hn:n<=maxLen)(hbig:n*4<=140737488355328)
  (hc:∀j u,news[j]?=some u->w.cell? ⟨b,off+j,none⟩=some u):
  Calls Tryz.prog 73 #[.slice (some ⟨b,off,none⟩) n c] w fun q w'=>∃g cap,q=.returned (.slice (some ⟨g,0,none⟩) n cap)/\w.heap.size<=g/\n<=cap/\cap<=maxLen/\w'.heap[g]?=some (.cells (news.toArray++Builtin.zeroCells z.cells (cap-n)) 34 (0,0))/\Below w.heap.size w w':=by
 have q22:∀(w:World)(a:Option Addr)(n c n' c':Nat),(binOp .eql 71 (.slice a n c) (.slice none n' c')).run Tryz.prog w=.ok (.bool a.isNone) w:=fun w a n c n' c'=>Lib.run_eql_slice_nil w _ _ a n c n' c' Tryz.underlying71;have A:Aside (∀j u,news[j]?=some u->w.cell? ⟨b,off+j,none⟩=some u):=hc;clear hc;obtain⟨zc,hzc⟩:∃zc:Nat->Array Value,∀m,Builtin.zeroCells z.cells m=zc m:=⟨_,fun _=>rfl⟩
 go_enter Tryz.func73,Tryz.ntmps73
 go_wp2_with (at_builtin;refine Aqs rfl _ _ 71 34 rfl i z Tryz.underlying71 hi hz (some ⟨w.heap.size,0,none⟩) rfl _ rfl n news ?gives h0 hn ?fit zc hzc ?_)
 case gives=>rw[hs];exact Arr hl fun j u hj=>Lib.cell?_alloc_some _ (A.out j u hj)
 case fit=>rw[hb];exact hbig
 intro cap h1 h2
 go_wp2
 go_ret
 refine⟨_,cap,rfl,zE _,h1,h2,?_,?_⟩
 .rw [hzc];show((w.heap.push (Obj.cells #[] 34)).push _)[w.heap.size+1]?=_;rw[show w.heap.size+1=(w.heap.push (Obj.cells #[] 34)).size from(zB ..).symm,zC]
 .refine ⟨rfl,rfl,rfl,?_,fun k hk=>?_⟩
  .show w.heap.size<=((w.heap.push (Obj.cells #[] 34)).push _).size;rw[zB,zB];exact Nat.le_trans (zE _) (zE _)
  .show ((w.heap.push (Obj.cells #[] 34)).push _)[k]?=_;rw[zD,if_neg (by rw[zB];omega),zD,if_neg (by omega)]
set_option maxHeartbeats 2000000 in
set_option maxRecDepth 100000 in
def none_(n c:Nat)(w:World):Calls Tryz.prog 73 #[.slice none n c] w fun e w'=>e=.returned (.slice none 0 0)/\w'=w:=by
 have q22:∀(w:World)(a:Option Addr)(n c n' c':Nat),(binOp .eql 71 (.slice a n c) (.slice none n' c')).run Tryz.prog w=.ok (.bool a.isNone) w:=fun w a n c n' c'=>Lib.run_eql_slice_nil w _ _ a n c n' c' Tryz.underlying71
 go_enter Tryz.func73,Tryz.ntmps73
 go_wp2
 go_ret
 exact⟨rfl,rfl⟩
def ok:∃z,CloneOK Tryz.prog 73 34 1 4 z:=by
 obtain⟨i,hi,h2⟩:=zA.1 infoE;simp only[zK]at h2;have hz:=zeroE;rw[hi]at hz;obtain⟨z,hz,hz2⟩:=zA.1 hz;rw[zH]at hz2;exact⟨z,fun b off n c news w hl h0 hn hb hc=>copied i z hi h2.1 h2.2 hz b off n c news w hl h0 hn hb hc,none_,fun a c w=>empty a c w,zG hz2.1,fun u hu=>zI.1 hz2.2 u hu,by decide⟩
end Go.Own.Clo73
namespace Go.Own.Clo120
open Go.Proofs Go.Lib Go.RowKit Go.Shelf
def infoE:(Tryz.prog.info? 54).map (fun i=>(i.size,i.bytes))=some (2,8):=by kernel_rfl
def zeroE:((Tryz.prog.info? 54).bind (·.zero)).map (fun z=>Nat.beq z.cells.size 2&&z.cells.toList.all Value.oneCell')=some true:=by kernel_rfl
set_option maxHeartbeats 2000000 in
set_option maxRecDepth 100000 in
def empty(a:Addr)(c:Nat)(w:World):Calls Tryz.prog 120 #[.slice (some a) 0 c] w fun e w'=>e=.returned (.slice (some ⟨w.heap.size,0,none⟩) 0 0)/\w'.heap[w.heap.size]?=some (.cells #[] 54 (0,0))/\Below w.heap.size w w':=by
 have q22:∀(w:World)(a:Option Addr)(n c n' c':Nat),(binOp .eql 29 (.slice a n c) (.slice none n' c')).run Tryz.prog w=.ok (.bool a.isNone) w:=fun w a n c n' c'=>Lib.run_eql_slice_nil w _ _ a n c n' c' Tryz.underlying29;obtain⟨i,hi,h2⟩:=zA.1 infoE
 go_enter Tryz.func120,Tryz.ntmps120
 go_wp2_with (at_builtin;refine wpList_append_room_src _ rfl _ _ 29 29 rfl 54 i Tryz.underlying29 hi w.heap.size 0 0 0 rfl _ rfl 0 [] ?src (zF _) (by intro j hj;simp at hj) (by intro j hj;simp at hj) ?_)
 case src=>exact Src.ofSlice _ Tryz.underlying29 a 0 c [] (by simp) (by intro j u hj;simp at hj) (by intro u hu;cases hu)
 go_ret
 refine⟨rfl,?_,(Below.refl _ w).alloc (zF _) _⟩;show(w.heap.push (Obj.cells #[] 54))[w.heap.size]?=_;rw[zC]
set_option maxHeartbeats 2000000 in
set_option maxRecDepth 100000 in
def copied(i:TypeInfo)(z:Value)(hi:Tryz.prog.info? 54=some i)(hs:i.size=2)(hb:i.bytes=8)(hz:i.zero=some z)(b off n c:Nat)(news:List Value)(w:World)(hl:news.length=n*2)(h0:0<n)(hn:n<=maxLen)(hbig:n*8<=140737488355328)
  (hc:∀j u,news[j]?=some u->w.cell? ⟨b,off+j,none⟩=some u):
  Calls Tryz.prog 120 #[.slice (some ⟨b,off,none⟩) n c] w fun q w'=>∃g cap,q=.returned (.slice (some ⟨g,0,none⟩) n cap)/\w.heap.size<=g/\n<=cap/\cap<=maxLen/\w'.heap[g]?=some (.cells (news.toArray++Builtin.zeroCells z.cells (cap-n)) 54 (0,0))/\Below w.heap.size w w':=by
 have q22:∀(w:World)(a:Option Addr)(n c n' c':Nat),(binOp .eql 29 (.slice a n c) (.slice none n' c')).run Tryz.prog w=.ok (.bool a.isNone) w:=fun w a n c n' c'=>Lib.run_eql_slice_nil w _ _ a n c n' c' Tryz.underlying29;have A:Aside (∀j u,news[j]?=some u->w.cell? ⟨b,off+j,none⟩=some u):=hc;clear hc;obtain⟨zc,hzc⟩:∃zc:Nat->Array Value,∀m,Builtin.zeroCells z.cells m=zc m:=⟨_,fun _=>rfl⟩
 go_enter Tryz.func120,Tryz.ntmps120
 go_wp2_with (at_builtin;refine Aqs rfl _ _ 29 54 rfl i z Tryz.underlying29 hi hz (some ⟨w.heap.size,0,none⟩) rfl _ rfl n news ?gives h0 hn ?fit zc hzc ?_)
 case gives=>rw[hs];exact Arr hl fun j u hj=>Lib.cell?_alloc_some _ (A.out j u hj)
 case fit=>rw[hb];exact hbig
 intro cap h1 h2
 go_wp2
 go_ret
 refine⟨_,cap,rfl,zE _,h1,h2,?_,?_⟩
 .rw [hzc];show((w.heap.push (Obj.cells #[] 54)).push _)[w.heap.size+1]?=_;rw[show w.heap.size+1=(w.heap.push (Obj.cells #[] 54)).size from(zB ..).symm,zC]
 .refine ⟨rfl,rfl,rfl,?_,fun k hk=>?_⟩
  .show w.heap.size<=((w.heap.push (Obj.cells #[] 54)).push _).size;rw[zB,zB];exact Nat.le_trans (zE _) (zE _)
  .show ((w.heap.push (Obj.cells #[] 54)).push _)[k]?=_;rw[zD,if_neg (by rw[zB];omega),zD,if_neg (by omega)]
set_option maxHeartbeats 2000000 in
set_option maxRecDepth 100000 in
def none_(n c:Nat)(w:World):Calls Tryz.prog 120 #[.slice none n c] w fun e w'=>e=.returned (.slice none 0 0)/\w'=w:=by
 have q22:∀(w:World)(a:Option Addr)(n c n' c':Nat),(binOp .eql 29 (.slice a n c) (.slice none n' c')).run Tryz.prog w=.ok (.bool a.isNone) w:=fun w a n c n' c'=>Lib.run_eql_slice_nil w _ _ a n c n' c' Tryz.underlying29
 go_enter Tryz.func120,Tryz.ntmps120
 go_wp2
 go_ret
 exact⟨rfl,rfl⟩
def ok:∃z,CloneOK Tryz.prog 120 54 2 8 z:=by
 obtain⟨i,hi,h2⟩:=zA.1 infoE;simp only[zK]at h2;have hz:=zeroE;rw[hi]at hz;obtain⟨z,hz,hz2⟩:=zA.1 hz;rw[zH]at hz2;exact⟨z,fun b off n c news w hl h0 hn hb hc=>copied i z hi h2.1 h2.2 hz b off n c news w hl h0 hn hb hc,none_,fun a c w=>empty a c w,zG hz2.1,fun u hu=>zI.1 hz2.2 u hu,by decide⟩
end Go.Own.Clo120
