/- What the functions answer. No conditions. -/
import Derived.Shelf.SlicesE.Clone
import Derived.Lib.JoinLaws
import Derived.Test.YtockohmmmlhhfadGreatDoorProg
import Derived.Test.YtockohmmmlhhfadGreatDoorOwn20
import Derived.Test.YtockohmmmlhhfadGreatDoorOwn31
set_option linter.all false
namespace Go.Own.Clo24
open Go.Proofs Go.Lib Go.RowKit Go.Shelf
theorem infoE:(Tryz.prog.info? 3).map (fun i=>(i.size,i.bytes))=some (1,8):=by kernel_rfl
theorem zeroE:((Tryz.prog.info? 3).bind (·.zero)).map (fun z=>Nat.beq z.cells.size 1&&z.cells.toList.all Value.oneCell')=some true:=by kernel_rfl
set_option maxHeartbeats 2000000 in
set_option maxRecDepth 100000 in
theorem empty (a:Addr) (c:Nat) (w:World):Calls Tryz.prog 24 #[.slice (some a) 0 c] w fun e w'=>e=.returned (.slice (some ⟨w.heap.size,0,none⟩) 0 0)/\w'.heap[w.heap.size]? = some (.cells #[] 3 (0,0))/\Below w.heap.size w w':=by
 have q22:∀ (w:World) (a:Option Addr) (n c n' c':Nat),(binOp .eql 46 (.slice a n c) (.slice none n' c')).run Tryz.prog w=.ok (.bool a.isNone) w:=fun w a n c n' c'=>Lib.run_eql_slice_nil w _ _ a n c n' c' Tryz.underlying46;obtain ⟨i,hi,h2⟩:=Option.map_eq_some_iff.1 infoE
 go_enter Tryz.func24,Tryz.ntmps24
 go_wp2_with (at_builtin;refine wpList_append_room_src _ rfl _ _ 46 46 rfl 3 i Tryz.underlying46 hi w.heap.size 0 0 0 rfl _ rfl 0 [] ?src (Nat.le_refl _) (by intro j hj;simp at hj) (by intro j hj;simp at hj) ?_)
 case src=>exact Src.ofSlice _ Tryz.underlying46 a 0 c [] (by simp) (by intro j u hj;simp at hj) (by intro u hu;cases hu)
 go_ret
 refine ⟨rfl,?_,(Below.refl _ w).alloc (Nat.le_refl _) _⟩;show (w.heap.push (Obj.cells #[] 3))[w.heap.size]? = _;rw [Array.getElem?_push_size]
set_option maxHeartbeats 2000000 in
set_option maxRecDepth 100000 in
theorem copied (i:TypeInfo) (z:Value) (hi:Tryz.prog.info? 3=some i) (hs:i.size=1) (hb:i.bytes=8) (hz:i.zero=some z) (b off n c:Nat) (news:List Value) (w:World) (hl:news.length=n*1) (h0:0<n) (hn:n<=maxLen) (hbig:n*8<=140737488355328)
  (hc:∀ j u,news[j]? = some u->w.cell? ⟨b,off+j,none⟩=some u) :
  Calls Tryz.prog 24 #[.slice (some ⟨b,off,none⟩) n c] w fun q w'=>∃ g cap,q=.returned (.slice (some ⟨g,0,none⟩) n cap)/\w.heap.size<=g/\n<=cap/\cap<=maxLen/\w'.heap[g]? = some (.cells (news.toArray++Builtin.zeroCells z.cells (cap-n)) 3 (0,0))/\Below w.heap.size w w':=by
 have q22:∀ (w:World) (a:Option Addr) (n c n' c':Nat),(binOp .eql 46 (.slice a n c) (.slice none n' c')).run Tryz.prog w=.ok (.bool a.isNone) w:=fun w a n c n' c'=>Lib.run_eql_slice_nil w _ _ a n c n' c' Tryz.underlying46;have A:Aside (∀ j u,news[j]? = some u->w.cell? ⟨b,off+j,none⟩=some u):=hc;clear hc;obtain ⟨zc,hzc⟩:∃ zc:Nat->Array Value,∀ m,Builtin.zeroCells z.cells m=zc m:=⟨_,fun _=>rfl⟩
 go_enter Tryz.func24,Tryz.ntmps24
 go_wp2_with (at_builtin;refine Ahg rfl _ _ 46 3 rfl i z Tryz.underlying46 hi hz (some ⟨w.heap.size,0,none⟩) rfl _ rfl n news ?gives h0 hn ?fit zc hzc ?_)
 case gives=>rw [hs];exact Ai1 hl fun j u hj=>Lib.cell?_alloc_some _ (A.out j u hj)
 case fit=>rw [hb];exact hbig
 intro cap h1 h2
 go_wp2
 go_ret
 refine ⟨_,cap,rfl,Nat.le_succ _,h1,h2,?_,?_⟩
 ·rw [hzc];show ((w.heap.push (Obj.cells #[] 3)).push _)[w.heap.size+1]? = _;rw [show w.heap.size+1=(w.heap.push (Obj.cells #[] 3)).size from (Array.size_push ..).symm,Array.getElem?_push_size]
 ·refine ⟨rfl,rfl,rfl,?_,fun k hk=>?_⟩
  ·show w.heap.size<=((w.heap.push (Obj.cells #[] 3)).push _).size;rw [Array.size_push,Array.size_push];exact Nat.le_trans (Nat.le_succ _) (Nat.le_succ _)
  ·show ((w.heap.push (Obj.cells #[] 3)).push _)[k]? = _;rw [Array.getElem?_push,if_neg (by rw [Array.size_push];omega),Array.getElem?_push,if_neg (by omega)]
set_option maxHeartbeats 2000000 in
set_option maxRecDepth 100000 in
theorem none_ (n c:Nat) (w:World):Calls Tryz.prog 24 #[.slice none n c] w fun e w'=>e=.returned (.slice none 0 0)/\w'=w:=by
 have q22:∀ (w:World) (a:Option Addr) (n c n' c':Nat),(binOp .eql 46 (.slice a n c) (.slice none n' c')).run Tryz.prog w=.ok (.bool a.isNone) w:=fun w a n c n' c'=>Lib.run_eql_slice_nil w _ _ a n c n' c' Tryz.underlying46
 go_enter Tryz.func24,Tryz.ntmps24
 go_wp2
 go_ret
 exact ⟨rfl,rfl⟩
theorem ok:∃ z,CloneOK Tryz.prog 24 3 1 8 z:=by
 obtain ⟨i,hi,h2⟩:=Option.map_eq_some_iff.1 infoE;simp only [Prod.mk.injEq] at h2;have hz:=zeroE;rw [hi] at hz;obtain ⟨z,hz,hz2⟩:=Option.map_eq_some_iff.1 hz;rw [Bool.and_eq_true] at hz2;exact ⟨z,fun b off n c news w hl h0 hn hb hc=>copied i z hi h2.1 h2.2 hz b off n c news w hl h0 hn hb hc,none_,fun a c w=>empty a c w,Nat.eq_of_beq_eq_true hz2.1,fun u hu=>List.all_eq_true.1 hz2.2 u hu,by decide⟩
end Go.Own.Clo24
namespace Go.Own.Clo75
open Go.Proofs Go.Lib Go.RowKit Go.Shelf
theorem infoE:(Tryz.prog.info? 68).map (fun i=>(i.size,i.bytes))=some (2,8):=by kernel_rfl
theorem zeroE:((Tryz.prog.info? 68).bind (·.zero)).map (fun z=>Nat.beq z.cells.size 2&&z.cells.toList.all Value.oneCell')=some true:=by kernel_rfl
set_option maxHeartbeats 2000000 in
set_option maxRecDepth 100000 in
theorem empty (a:Addr) (c:Nat) (w:World):Calls Tryz.prog 75 #[.slice (some a) 0 c] w fun e w'=>e=.returned (.slice (some ⟨w.heap.size,0,none⟩) 0 0)/\w'.heap[w.heap.size]? = some (.cells #[] 68 (0,0))/\Below w.heap.size w w':=by
 have q22:∀ (w:World) (a:Option Addr) (n c n' c':Nat),(binOp .eql 115 (.slice a n c) (.slice none n' c')).run Tryz.prog w=.ok (.bool a.isNone) w:=fun w a n c n' c'=>Lib.run_eql_slice_nil w _ _ a n c n' c' Tryz.underlying115;obtain ⟨i,hi,h2⟩:=Option.map_eq_some_iff.1 infoE
 go_enter Tryz.func75,Tryz.ntmps75
 go_wp2_with (at_builtin;refine wpList_append_room_src _ rfl _ _ 115 115 rfl 68 i Tryz.underlying115 hi w.heap.size 0 0 0 rfl _ rfl 0 [] ?src (Nat.le_refl _) (by intro j hj;simp at hj) (by intro j hj;simp at hj) ?_)
 case src=>exact Src.ofSlice _ Tryz.underlying115 a 0 c [] (by simp) (by intro j u hj;simp at hj) (by intro u hu;cases hu)
 go_ret
 refine ⟨rfl,?_,(Below.refl _ w).alloc (Nat.le_refl _) _⟩;show (w.heap.push (Obj.cells #[] 68))[w.heap.size]? = _;rw [Array.getElem?_push_size]
set_option maxHeartbeats 2000000 in
set_option maxRecDepth 100000 in
theorem copied (i:TypeInfo) (z:Value) (hi:Tryz.prog.info? 68=some i) (hs:i.size=2) (hb:i.bytes=8) (hz:i.zero=some z) (b off n c:Nat) (news:List Value) (w:World) (hl:news.length=n*2) (h0:0<n) (hn:n<=maxLen) (hbig:n*8<=140737488355328)
  (hc:∀ j u,news[j]? = some u->w.cell? ⟨b,off+j,none⟩=some u) :
  Calls Tryz.prog 75 #[.slice (some ⟨b,off,none⟩) n c] w fun q w'=>∃ g cap,q=.returned (.slice (some ⟨g,0,none⟩) n cap)/\w.heap.size<=g/\n<=cap/\cap<=maxLen/\w'.heap[g]? = some (.cells (news.toArray++Builtin.zeroCells z.cells (cap-n)) 68 (0,0))/\Below w.heap.size w w':=by
 have q22:∀ (w:World) (a:Option Addr) (n c n' c':Nat),(binOp .eql 115 (.slice a n c) (.slice none n' c')).run Tryz.prog w=.ok (.bool a.isNone) w:=fun w a n c n' c'=>Lib.run_eql_slice_nil w _ _ a n c n' c' Tryz.underlying115;have A:Aside (∀ j u,news[j]? = some u->w.cell? ⟨b,off+j,none⟩=some u):=hc;clear hc;obtain ⟨zc,hzc⟩:∃ zc:Nat->Array Value,∀ m,Builtin.zeroCells z.cells m=zc m:=⟨_,fun _=>rfl⟩
 go_enter Tryz.func75,Tryz.ntmps75
 go_wp2_with (at_builtin;refine Ahg rfl _ _ 115 68 rfl i z Tryz.underlying115 hi hz (some ⟨w.heap.size,0,none⟩) rfl _ rfl n news ?gives h0 hn ?fit zc hzc ?_)
 case gives=>rw [hs];exact Ai1 hl fun j u hj=>Lib.cell?_alloc_some _ (A.out j u hj)
 case fit=>rw [hb];exact hbig
 intro cap h1 h2
 go_wp2
 go_ret
 refine ⟨_,cap,rfl,Nat.le_succ _,h1,h2,?_,?_⟩
 ·rw [hzc];show ((w.heap.push (Obj.cells #[] 68)).push _)[w.heap.size+1]? = _;rw [show w.heap.size+1=(w.heap.push (Obj.cells #[] 68)).size from (Array.size_push ..).symm,Array.getElem?_push_size]
 ·refine ⟨rfl,rfl,rfl,?_,fun k hk=>?_⟩
  ·show w.heap.size<=((w.heap.push (Obj.cells #[] 68)).push _).size;rw [Array.size_push,Array.size_push];exact Nat.le_trans (Nat.le_succ _) (Nat.le_succ _)
  ·show ((w.heap.push (Obj.cells #[] 68)).push _)[k]? = _;rw [Array.getElem?_push,if_neg (by rw [Array.size_push];omega),Array.getElem?_push,if_neg (by omega)]
set_option maxHeartbeats 2000000 in
set_option maxRecDepth 100000 in
theorem none_ (n c:Nat) (w:World):Calls Tryz.prog 75 #[.slice none n c] w fun e w'=>e=.returned (.slice none 0 0)/\w'=w:=by
 have q22:∀ (w:World) (a:Option Addr) (n c n' c':Nat),(binOp .eql 115 (.slice a n c) (.slice none n' c')).run Tryz.prog w=.ok (.bool a.isNone) w:=fun w a n c n' c'=>Lib.run_eql_slice_nil w _ _ a n c n' c' Tryz.underlying115
 go_enter Tryz.func75,Tryz.ntmps75
 go_wp2
 go_ret
 exact ⟨rfl,rfl⟩
theorem ok:∃ z,CloneOK Tryz.prog 75 68 2 8 z:=by
 obtain ⟨i,hi,h2⟩:=Option.map_eq_some_iff.1 infoE;simp only [Prod.mk.injEq] at h2;have hz:=zeroE;rw [hi] at hz;obtain ⟨z,hz,hz2⟩:=Option.map_eq_some_iff.1 hz;rw [Bool.and_eq_true] at hz2;exact ⟨z,fun b off n c news w hl h0 hn hb hc=>copied i z hi h2.1 h2.2 hz b off n c news w hl h0 hn hb hc,none_,fun a c w=>empty a c w,Nat.eq_of_beq_eq_true hz2.1,fun u hu=>List.all_eq_true.1 hz2.2 u hu,by decide⟩
end Go.Own.Clo75
namespace Go.Own.Clo94
open Go.Proofs Go.Lib Go.RowKit Go.Shelf
theorem infoE:(Tryz.prog.info? 100).map (fun i=>(i.size,i.bytes))=some (2,32):=by kernel_rfl
theorem zeroE:((Tryz.prog.info? 100).bind (·.zero)).map (fun z=>Nat.beq z.cells.size 2&&z.cells.toList.all Value.oneCell')=some true:=by kernel_rfl
set_option maxHeartbeats 2000000 in
set_option maxRecDepth 100000 in
theorem empty (a:Addr) (c:Nat) (w:World):Calls Tryz.prog 94 #[.slice (some a) 0 c] w fun e w'=>e=.returned (.slice (some ⟨w.heap.size,0,none⟩) 0 0)/\w'.heap[w.heap.size]? = some (.cells #[] 100 (0,0))/\Below w.heap.size w w':=by
 have q22:∀ (w:World) (a:Option Addr) (n c n' c':Nat),(binOp .eql 28 (.slice a n c) (.slice none n' c')).run Tryz.prog w=.ok (.bool a.isNone) w:=fun w a n c n' c'=>Lib.run_eql_slice_nil w _ _ a n c n' c' Tryz.underlying28;obtain ⟨i,hi,h2⟩:=Option.map_eq_some_iff.1 infoE
 go_enter Tryz.func94,Tryz.ntmps94
 go_wp2_with (at_builtin;refine wpList_append_room_src _ rfl _ _ 28 28 rfl 100 i Tryz.underlying28 hi w.heap.size 0 0 0 rfl _ rfl 0 [] ?src (Nat.le_refl _) (by intro j hj;simp at hj) (by intro j hj;simp at hj) ?_)
 case src=>exact Src.ofSlice _ Tryz.underlying28 a 0 c [] (by simp) (by intro j u hj;simp at hj) (by intro u hu;cases hu)
 go_ret
 refine ⟨rfl,?_,(Below.refl _ w).alloc (Nat.le_refl _) _⟩;show (w.heap.push (Obj.cells #[] 100))[w.heap.size]? = _;rw [Array.getElem?_push_size]
set_option maxHeartbeats 2000000 in
set_option maxRecDepth 100000 in
theorem copied (i:TypeInfo) (z:Value) (hi:Tryz.prog.info? 100=some i) (hs:i.size=2) (hb:i.bytes=32) (hz:i.zero=some z) (b off n c:Nat) (news:List Value) (w:World) (hl:news.length=n*2) (h0:0<n) (hn:n<=maxLen) (hbig:n*32<=140737488355328)
  (hc:∀ j u,news[j]? = some u->w.cell? ⟨b,off+j,none⟩=some u) :
  Calls Tryz.prog 94 #[.slice (some ⟨b,off,none⟩) n c] w fun q w'=>∃ g cap,q=.returned (.slice (some ⟨g,0,none⟩) n cap)/\w.heap.size<=g/\n<=cap/\cap<=maxLen/\w'.heap[g]? = some (.cells (news.toArray++Builtin.zeroCells z.cells (cap-n)) 100 (0,0))/\Below w.heap.size w w':=by
 have q22:∀ (w:World) (a:Option Addr) (n c n' c':Nat),(binOp .eql 28 (.slice a n c) (.slice none n' c')).run Tryz.prog w=.ok (.bool a.isNone) w:=fun w a n c n' c'=>Lib.run_eql_slice_nil w _ _ a n c n' c' Tryz.underlying28;have A:Aside (∀ j u,news[j]? = some u->w.cell? ⟨b,off+j,none⟩=some u):=hc;clear hc;obtain ⟨zc,hzc⟩:∃ zc:Nat->Array Value,∀ m,Builtin.zeroCells z.cells m=zc m:=⟨_,fun _=>rfl⟩
 go_enter Tryz.func94,Tryz.ntmps94
 go_wp2_with (at_builtin;refine Ahg rfl _ _ 28 100 rfl i z Tryz.underlying28 hi hz (some ⟨w.heap.size,0,none⟩) rfl _ rfl n news ?gives h0 hn ?fit zc hzc ?_)
 case gives=>rw [hs];exact Ai1 hl fun j u hj=>Lib.cell?_alloc_some _ (A.out j u hj)
 case fit=>rw [hb];exact hbig
 intro cap h1 h2
 go_wp2
 go_ret
 refine ⟨_,cap,rfl,Nat.le_succ _,h1,h2,?_,?_⟩
 ·rw [hzc];show ((w.heap.push (Obj.cells #[] 100)).push _)[w.heap.size+1]? = _;rw [show w.heap.size+1=(w.heap.push (Obj.cells #[] 100)).size from (Array.size_push ..).symm,Array.getElem?_push_size]
 ·refine ⟨rfl,rfl,rfl,?_,fun k hk=>?_⟩
  ·show w.heap.size<=((w.heap.push (Obj.cells #[] 100)).push _).size;rw [Array.size_push,Array.size_push];exact Nat.le_trans (Nat.le_succ _) (Nat.le_succ _)
  ·show ((w.heap.push (Obj.cells #[] 100)).push _)[k]? = _;rw [Array.getElem?_push,if_neg (by rw [Array.size_push];omega),Array.getElem?_push,if_neg (by omega)]
set_option maxHeartbeats 2000000 in
set_option maxRecDepth 100000 in
theorem none_ (n c:Nat) (w:World):Calls Tryz.prog 94 #[.slice none n c] w fun e w'=>e=.returned (.slice none 0 0)/\w'=w:=by
 have q22:∀ (w:World) (a:Option Addr) (n c n' c':Nat),(binOp .eql 28 (.slice a n c) (.slice none n' c')).run Tryz.prog w=.ok (.bool a.isNone) w:=fun w a n c n' c'=>Lib.run_eql_slice_nil w _ _ a n c n' c' Tryz.underlying28
 go_enter Tryz.func94,Tryz.ntmps94
 go_wp2
 go_ret
 exact ⟨rfl,rfl⟩
theorem ok:∃ z,CloneOK Tryz.prog 94 100 2 32 z:=by
 obtain ⟨i,hi,h2⟩:=Option.map_eq_some_iff.1 infoE;simp only [Prod.mk.injEq] at h2;have hz:=zeroE;rw [hi] at hz;obtain ⟨z,hz,hz2⟩:=Option.map_eq_some_iff.1 hz;rw [Bool.and_eq_true] at hz2;exact ⟨z,fun b off n c news w hl h0 hn hb hc=>copied i z hi h2.1 h2.2 hz b off n c news w hl h0 hn hb hc,none_,fun a c w=>empty a c w,Nat.eq_of_beq_eq_true hz2.1,fun u hu=>List.all_eq_true.1 hz2.2 u hu,by decide⟩
end Go.Own.Clo94
namespace Go.Own.Clo99
open Go.Proofs Go.Lib Go.RowKit Go.Shelf
theorem infoE:(Tryz.prog.info? 35).map (fun i=>(i.size,i.bytes))=some (1,4):=by kernel_rfl
theorem zeroE:((Tryz.prog.info? 35).bind (·.zero)).map (fun z=>Nat.beq z.cells.size 1&&z.cells.toList.all Value.oneCell')=some true:=by kernel_rfl
set_option maxHeartbeats 2000000 in
set_option maxRecDepth 100000 in
theorem empty (a:Addr) (c:Nat) (w:World):Calls Tryz.prog 99 #[.slice (some a) 0 c] w fun e w'=>e=.returned (.slice (some ⟨w.heap.size,0,none⟩) 0 0)/\w'.heap[w.heap.size]? = some (.cells #[] 35 (0,0))/\Below w.heap.size w w':=by
 have q22:∀ (w:World) (a:Option Addr) (n c n' c':Nat),(binOp .eql 64 (.slice a n c) (.slice none n' c')).run Tryz.prog w=.ok (.bool a.isNone) w:=fun w a n c n' c'=>Lib.run_eql_slice_nil w _ _ a n c n' c' Tryz.underlying64;obtain ⟨i,hi,h2⟩:=Option.map_eq_some_iff.1 infoE
 go_enter Tryz.func99,Tryz.ntmps99
 go_wp2_with (at_builtin;refine wpList_append_room_src _ rfl _ _ 64 64 rfl 35 i Tryz.underlying64 hi w.heap.size 0 0 0 rfl _ rfl 0 [] ?src (Nat.le_refl _) (by intro j hj;simp at hj) (by intro j hj;simp at hj) ?_)
 case src=>exact Src.ofSlice _ Tryz.underlying64 a 0 c [] (by simp) (by intro j u hj;simp at hj) (by intro u hu;cases hu)
 go_ret
 refine ⟨rfl,?_,(Below.refl _ w).alloc (Nat.le_refl _) _⟩;show (w.heap.push (Obj.cells #[] 35))[w.heap.size]? = _;rw [Array.getElem?_push_size]
set_option maxHeartbeats 2000000 in
set_option maxRecDepth 100000 in
theorem copied (i:TypeInfo) (z:Value) (hi:Tryz.prog.info? 35=some i) (hs:i.size=1) (hb:i.bytes=4) (hz:i.zero=some z) (b off n c:Nat) (news:List Value) (w:World) (hl:news.length=n*1) (h0:0<n) (hn:n<=maxLen) (hbig:n*4<=140737488355328)
  (hc:∀ j u,news[j]? = some u->w.cell? ⟨b,off+j,none⟩=some u) :
  Calls Tryz.prog 99 #[.slice (some ⟨b,off,none⟩) n c] w fun q w'=>∃ g cap,q=.returned (.slice (some ⟨g,0,none⟩) n cap)/\w.heap.size<=g/\n<=cap/\cap<=maxLen/\w'.heap[g]? = some (.cells (news.toArray++Builtin.zeroCells z.cells (cap-n)) 35 (0,0))/\Below w.heap.size w w':=by
 have q22:∀ (w:World) (a:Option Addr) (n c n' c':Nat),(binOp .eql 64 (.slice a n c) (.slice none n' c')).run Tryz.prog w=.ok (.bool a.isNone) w:=fun w a n c n' c'=>Lib.run_eql_slice_nil w _ _ a n c n' c' Tryz.underlying64;have A:Aside (∀ j u,news[j]? = some u->w.cell? ⟨b,off+j,none⟩=some u):=hc;clear hc;obtain ⟨zc,hzc⟩:∃ zc:Nat->Array Value,∀ m,Builtin.zeroCells z.cells m=zc m:=⟨_,fun _=>rfl⟩
 go_enter Tryz.func99,Tryz.ntmps99
 go_wp2_with (at_builtin;refine Ahg rfl _ _ 64 35 rfl i z Tryz.underlying64 hi hz (some ⟨w.heap.size,0,none⟩) rfl _ rfl n news ?gives h0 hn ?fit zc hzc ?_)
 case gives=>rw [hs];exact Ai1 hl fun j u hj=>Lib.cell?_alloc_some _ (A.out j u hj)
 case fit=>rw [hb];exact hbig
 intro cap h1 h2
 go_wp2
 go_ret
 refine ⟨_,cap,rfl,Nat.le_succ _,h1,h2,?_,?_⟩
 ·rw [hzc];show ((w.heap.push (Obj.cells #[] 35)).push _)[w.heap.size+1]? = _;rw [show w.heap.size+1=(w.heap.push (Obj.cells #[] 35)).size from (Array.size_push ..).symm,Array.getElem?_push_size]
 ·refine ⟨rfl,rfl,rfl,?_,fun k hk=>?_⟩
  ·show w.heap.size<=((w.heap.push (Obj.cells #[] 35)).push _).size;rw [Array.size_push,Array.size_push];exact Nat.le_trans (Nat.le_succ _) (Nat.le_succ _)
  ·show ((w.heap.push (Obj.cells #[] 35)).push _)[k]? = _;rw [Array.getElem?_push,if_neg (by rw [Array.size_push];omega),Array.getElem?_push,if_neg (by omega)]
set_option maxHeartbeats 2000000 in
set_option maxRecDepth 100000 in
theorem none_ (n c:Nat) (w:World):Calls Tryz.prog 99 #[.slice none n c] w fun e w'=>e=.returned (.slice none 0 0)/\w'=w:=by
 have q22:∀ (w:World) (a:Option Addr) (n c n' c':Nat),(binOp .eql 64 (.slice a n c) (.slice none n' c')).run Tryz.prog w=.ok (.bool a.isNone) w:=fun w a n c n' c'=>Lib.run_eql_slice_nil w _ _ a n c n' c' Tryz.underlying64
 go_enter Tryz.func99,Tryz.ntmps99
 go_wp2
 go_ret
 exact ⟨rfl,rfl⟩
theorem ok:∃ z,CloneOK Tryz.prog 99 35 1 4 z:=by
 obtain ⟨i,hi,h2⟩:=Option.map_eq_some_iff.1 infoE;simp only [Prod.mk.injEq] at h2;have hz:=zeroE;rw [hi] at hz;obtain ⟨z,hz,hz2⟩:=Option.map_eq_some_iff.1 hz;rw [Bool.and_eq_true] at hz2;exact ⟨z,fun b off n c news w hl h0 hn hb hc=>copied i z hi h2.1 h2.2 hz b off n c news w hl h0 hn hb hc,none_,fun a c w=>empty a c w,Nat.eq_of_beq_eq_true hz2.1,fun u hu=>List.all_eq_true.1 hz2.2 u hu,by decide⟩
end Go.Own.Clo99
