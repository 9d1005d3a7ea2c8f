/- What the functions answer. No conditions. -/
import Derived.Shelf.SlicesE.Clone
import Derived.Lib.JoinLaws
import Derived.Test.YtockohmmmlhhfabGreatDoorProg
import Derived.Test.YtockohmmmlhhfabGreatDoorOwn20
import Derived.Test.YtockohmmmlhhfabGreatDoorOwn31
set_option linter.all false
namespace Go.Own.Clo76
open Go.Proofs Go.Lib Go.RowKit Go.Shelf
theorem infoE:(Tryz.prog.info? 76).map (fun i=>(i.size,i.bytes))=some (2,8):=by kernel_rfl
theorem zeroE:((Tryz.prog.info? 76).bind (·.zero)).map (fun z=>Nat.beq z.cells.size 2&&z.cells.toList.all Value.oneCell')=some true:=by kernel_rfl
set_option maxHeartbeats 2000000 in
set_option maxRecDepth 100000 in
theorem empty (a:Addr) (c:Nat) (w:World):Calls Tryz.prog 76 #[.slice (some a) 0 c] w fun e w'=>e=.returned (.slice (some ⟨w.heap.size,0,none⟩) 0 0)/\w'.heap[w.heap.size]? = some (.cells #[] 76 (0,0))/\Below w.heap.size w w':=by
 have q22:∀ (w:World) (a:Option Addr) (n c n' c':Nat),(binOp .eql 125 (.slice a n c) (.slice none n' c')).run Tryz.prog w=.ok (.bool a.isNone) w:=fun w a n c n' c'=>Lib.run_eql_slice_nil w _ _ a n c n' c' Tryz.underlying125;obtain ⟨i,hi,h2⟩:=Option.map_eq_some_iff.1 infoE
 go_enter Tryz.func76,Tryz.ntmps76
 go_wp2_with (at_builtin;refine wpList_append_room_src _ rfl _ _ 125 125 rfl 76 i Tryz.underlying125 hi w.heap.size 0 0 0 rfl _ rfl 0 [] ?src (Nat.le_refl _) (by intro j hj;simp at hj) (by intro j hj;simp at hj) ?_)
 case src=>exact Src.ofSlice _ Tryz.underlying125 a 0 c [] (by simp) (by intro j u hj;simp at hj) (by intro u hu;cases hu)
 go_ret
 refine ⟨rfl,?_,(Below.refl _ w).alloc (Nat.le_refl _) _⟩;show (w.heap.push (Obj.cells #[] 76))[w.heap.size]? = _;rw [Array.getElem?_push_size]
set_option maxHeartbeats 2000000 in
set_option maxRecDepth 100000 in
theorem copied (i:TypeInfo) (z:Value) (hi:Tryz.prog.info? 76=some i) (hs:i.size=2) (hb:i.bytes=8) (hz:i.zero=some z) (b off n c:Nat) (news:List Value) (w:World) (hl:news.length=n*2) (h0:0<n) (hn:n<=maxLen) (hbig:n*8<=140737488355328)
  (hc:∀ j u,news[j]? = some u->w.cell? ⟨b,off+j,none⟩=some u) :
  Calls Tryz.prog 76 #[.slice (some ⟨b,off,none⟩) n c] w fun q w'=>∃ g cap,q=.returned (.slice (some ⟨g,0,none⟩) n cap)/\w.heap.size<=g/\n<=cap/\cap<=maxLen/\w'.heap[g]? = some (.cells (news.toArray++Builtin.zeroCells z.cells (cap-n)) 76 (0,0))/\Below w.heap.size w w':=by
 have q22:∀ (w:World) (a:Option Addr) (n c n' c':Nat),(binOp .eql 125 (.slice a n c) (.slice none n' c')).run Tryz.prog w=.ok (.bool a.isNone) w:=fun w a n c n' c'=>Lib.run_eql_slice_nil w _ _ a n c n' c' Tryz.underlying125;have A:Aside (∀ j u,news[j]? = some u->w.cell? ⟨b,off+j,none⟩=some u):=hc;clear hc;obtain ⟨zc,hzc⟩:∃ zc:Nat->Array Value,∀ m,Builtin.zeroCells z.cells m=zc m:=⟨_,fun _=>rfl⟩
 go_enter Tryz.func76,Tryz.ntmps76
 go_wp2_with (at_builtin;refine Aj6 rfl _ _ 125 76 rfl i z Tryz.underlying125 hi hz (some ⟨w.heap.size,0,none⟩) rfl _ rfl n news ?gives h0 hn ?fit zc hzc ?_)
 case gives=>rw [hs];exact Ajz hl fun j u hj=>Lib.cell?_alloc_some _ (A.out j u hj)
 case fit=>rw [hb];exact hbig
 intro cap h1 h2
 go_wp2
 go_ret
 refine ⟨_,cap,rfl,Nat.le_succ _,h1,h2,?_,?_⟩
 ·rw [hzc];show ((w.heap.push (Obj.cells #[] 76)).push _)[w.heap.size+1]? = _;rw [show w.heap.size+1=(w.heap.push (Obj.cells #[] 76)).size from (Array.size_push ..).symm,Array.getElem?_push_size]
 ·refine ⟨rfl,rfl,rfl,?_,fun k hk=>?_⟩
  ·show w.heap.size<=((w.heap.push (Obj.cells #[] 76)).push _).size;rw [Array.size_push,Array.size_push];exact Nat.le_trans (Nat.le_succ _) (Nat.le_succ _)
  ·show ((w.heap.push (Obj.cells #[] 76)).push _)[k]? = _;rw [Array.getElem?_push,if_neg (by rw [Array.size_push];omega),Array.getElem?_push,if_neg (by omega)]
set_option maxHeartbeats 2000000 in
set_option maxRecDepth 100000 in
theorem none_ (n c:Nat) (w:World):Calls Tryz.prog 76 #[.slice none n c] w fun e w'=>e=.returned (.slice none 0 0)/\w'=w:=by
 have q22:∀ (w:World) (a:Option Addr) (n c n' c':Nat),(binOp .eql 125 (.slice a n c) (.slice none n' c')).run Tryz.prog w=.ok (.bool a.isNone) w:=fun w a n c n' c'=>Lib.run_eql_slice_nil w _ _ a n c n' c' Tryz.underlying125
 go_enter Tryz.func76,Tryz.ntmps76
 go_wp2
 go_ret
 exact ⟨rfl,rfl⟩
theorem ok:∃ z,CloneOK Tryz.prog 76 76 2 8 z:=by
 obtain ⟨i,hi,h2⟩:=Option.map_eq_some_iff.1 infoE;simp only [Prod.mk.injEq] at h2;have hz:=zeroE;rw [hi] at hz;obtain ⟨z,hz,hz2⟩:=Option.map_eq_some_iff.1 hz;rw [Bool.and_eq_true] at hz2;exact ⟨z,fun b off n c news w hl h0 hn hb hc=>copied i z hi h2.1 h2.2 hz b off n c news w hl h0 hn hb hc,none_,fun a c w=>empty a c w,Nat.eq_of_beq_eq_true hz2.1,fun u hu=>List.all_eq_true.1 hz2.2 u hu,by decide⟩
end Go.Own.Clo76
namespace Go.Own.Clo90
open Go.Proofs Go.Lib Go.RowKit Go.Shelf
theorem infoE:(Tryz.prog.info? 89).map (fun i=>(i.size,i.bytes))=some (2,32):=by kernel_rfl
theorem zeroE:((Tryz.prog.info? 89).bind (·.zero)).map (fun z=>Nat.beq z.cells.size 2&&z.cells.toList.all Value.oneCell')=some true:=by kernel_rfl
set_option maxHeartbeats 2000000 in
set_option maxRecDepth 100000 in
theorem empty (a:Addr) (c:Nat) (w:World):Calls Tryz.prog 90 #[.slice (some a) 0 c] w fun e w'=>e=.returned (.slice (some ⟨w.heap.size,0,none⟩) 0 0)/\w'.heap[w.heap.size]? = some (.cells #[] 89 (0,0))/\Below w.heap.size w w':=by
 have q22:∀ (w:World) (a:Option Addr) (n c n' c':Nat),(binOp .eql 31 (.slice a n c) (.slice none n' c')).run Tryz.prog w=.ok (.bool a.isNone) w:=fun w a n c n' c'=>Lib.run_eql_slice_nil w _ _ a n c n' c' Tryz.underlying31;obtain ⟨i,hi,h2⟩:=Option.map_eq_some_iff.1 infoE
 go_enter Tryz.func90,Tryz.ntmps90
 go_wp2_with (at_builtin;refine wpList_append_room_src _ rfl _ _ 31 31 rfl 89 i Tryz.underlying31 hi w.heap.size 0 0 0 rfl _ rfl 0 [] ?src (Nat.le_refl _) (by intro j hj;simp at hj) (by intro j hj;simp at hj) ?_)
 case src=>exact Src.ofSlice _ Tryz.underlying31 a 0 c [] (by simp) (by intro j u hj;simp at hj) (by intro u hu;cases hu)
 go_ret
 refine ⟨rfl,?_,(Below.refl _ w).alloc (Nat.le_refl _) _⟩;show (w.heap.push (Obj.cells #[] 89))[w.heap.size]? = _;rw [Array.getElem?_push_size]
set_option maxHeartbeats 2000000 in
set_option maxRecDepth 100000 in
theorem copied (i:TypeInfo) (z:Value) (hi:Tryz.prog.info? 89=some i) (hs:i.size=2) (hb:i.bytes=32) (hz:i.zero=some z) (b off n c:Nat) (news:List Value) (w:World) (hl:news.length=n*2) (h0:0<n) (hn:n<=maxLen) (hbig:n*32<=140737488355328)
  (hc:∀ j u,news[j]? = some u->w.cell? ⟨b,off+j,none⟩=some u) :
  Calls Tryz.prog 90 #[.slice (some ⟨b,off,none⟩) n c] w fun q w'=>∃ g cap,q=.returned (.slice (some ⟨g,0,none⟩) n cap)/\w.heap.size<=g/\n<=cap/\cap<=maxLen/\w'.heap[g]? = some (.cells (news.toArray++Builtin.zeroCells z.cells (cap-n)) 89 (0,0))/\Below w.heap.size w w':=by
 have q22:∀ (w:World) (a:Option Addr) (n c n' c':Nat),(binOp .eql 31 (.slice a n c) (.slice none n' c')).run Tryz.prog w=.ok (.bool a.isNone) w:=fun w a n c n' c'=>Lib.run_eql_slice_nil w _ _ a n c n' c' Tryz.underlying31;have A:Aside (∀ j u,news[j]? = some u->w.cell? ⟨b,off+j,none⟩=some u):=hc;clear hc;obtain ⟨zc,hzc⟩:∃ zc:Nat->Array Value,∀ m,Builtin.zeroCells z.cells m=zc m:=⟨_,fun _=>rfl⟩
 go_enter Tryz.func90,Tryz.ntmps90
 go_wp2_with (at_builtin;refine Aj6 rfl _ _ 31 89 rfl i z Tryz.underlying31 hi hz (some ⟨w.heap.size,0,none⟩) rfl _ rfl n news ?gives h0 hn ?fit zc hzc ?_)
 case gives=>rw [hs];exact Ajz hl fun j u hj=>Lib.cell?_alloc_some _ (A.out j u hj)
 case fit=>rw [hb];exact hbig
 intro cap h1 h2
 go_wp2
 go_ret
 refine ⟨_,cap,rfl,Nat.le_succ _,h1,h2,?_,?_⟩
 ·rw [hzc];show ((w.heap.push (Obj.cells #[] 89)).push _)[w.heap.size+1]? = _;rw [show w.heap.size+1=(w.heap.push (Obj.cells #[] 89)).size from (Array.size_push ..).symm,Array.getElem?_push_size]
 ·refine ⟨rfl,rfl,rfl,?_,fun k hk=>?_⟩
  ·show w.heap.size<=((w.heap.push (Obj.cells #[] 89)).push _).size;rw [Array.size_push,Array.size_push];exact Nat.le_trans (Nat.le_succ _) (Nat.le_succ _)
  ·show ((w.heap.push (Obj.cells #[] 89)).push _)[k]? = _;rw [Array.getElem?_push,if_neg (by rw [Array.size_push];omega),Array.getElem?_push,if_neg (by omega)]
set_option maxHeartbeats 2000000 in
set_option maxRecDepth 100000 in
theorem none_ (n c:Nat) (w:World):Calls Tryz.prog 90 #[.slice none n c] w fun e w'=>e=.returned (.slice none 0 0)/\w'=w:=by
 have q22:∀ (w:World) (a:Option Addr) (n c n' c':Nat),(binOp .eql 31 (.slice a n c) (.slice none n' c')).run Tryz.prog w=.ok (.bool a.isNone) w:=fun w a n c n' c'=>Lib.run_eql_slice_nil w _ _ a n c n' c' Tryz.underlying31
 go_enter Tryz.func90,Tryz.ntmps90
 go_wp2
 go_ret
 exact ⟨rfl,rfl⟩
theorem ok:∃ z,CloneOK Tryz.prog 90 89 2 32 z:=by
 obtain ⟨i,hi,h2⟩:=Option.map_eq_some_iff.1 infoE;simp only [Prod.mk.injEq] at h2;have hz:=zeroE;rw [hi] at hz;obtain ⟨z,hz,hz2⟩:=Option.map_eq_some_iff.1 hz;rw [Bool.and_eq_true] at hz2;exact ⟨z,fun b off n c news w hl h0 hn hb hc=>copied i z hi h2.1 h2.2 hz b off n c news w hl h0 hn hb hc,none_,fun a c w=>empty a c w,Nat.eq_of_beq_eq_true hz2.1,fun u hu=>List.all_eq_true.1 hz2.2 u hu,by decide⟩
end Go.Own.Clo90
namespace Go.Own.Clo95
open Go.Proofs Go.Lib Go.RowKit Go.Shelf
theorem infoE:(Tryz.prog.info? 62).map (fun i=>(i.size,i.bytes))=some (1,4):=by kernel_rfl
theorem zeroE:((Tryz.prog.info? 62).bind (·.zero)).map (fun z=>Nat.beq z.cells.size 1&&z.cells.toList.all Value.oneCell')=some true:=by kernel_rfl
set_option maxHeartbeats 2000000 in
set_option maxRecDepth 100000 in
theorem empty (a:Addr) (c:Nat) (w:World):Calls Tryz.prog 95 #[.slice (some a) 0 c] w fun e w'=>e=.returned (.slice (some ⟨w.heap.size,0,none⟩) 0 0)/\w'.heap[w.heap.size]? = some (.cells #[] 62 (0,0))/\Below w.heap.size w w':=by
 have q22:∀ (w:World) (a:Option Addr) (n c n' c':Nat),(binOp .eql 71 (.slice a n c) (.slice none n' c')).run Tryz.prog w=.ok (.bool a.isNone) w:=fun w a n c n' c'=>Lib.run_eql_slice_nil w _ _ a n c n' c' Tryz.underlying71;obtain ⟨i,hi,h2⟩:=Option.map_eq_some_iff.1 infoE
 go_enter Tryz.func95,Tryz.ntmps95
 go_wp2_with (at_builtin;refine wpList_append_room_src _ rfl _ _ 71 71 rfl 62 i Tryz.underlying71 hi w.heap.size 0 0 0 rfl _ rfl 0 [] ?src (Nat.le_refl _) (by intro j hj;simp at hj) (by intro j hj;simp at hj) ?_)
 case src=>exact Src.ofSlice _ Tryz.underlying71 a 0 c [] (by simp) (by intro j u hj;simp at hj) (by intro u hu;cases hu)
 go_ret
 refine ⟨rfl,?_,(Below.refl _ w).alloc (Nat.le_refl _) _⟩;show (w.heap.push (Obj.cells #[] 62))[w.heap.size]? = _;rw [Array.getElem?_push_size]
set_option maxHeartbeats 2000000 in
set_option maxRecDepth 100000 in
theorem copied (i:TypeInfo) (z:Value) (hi:Tryz.prog.info? 62=some i) (hs:i.size=1) (hb:i.bytes=4) (hz:i.zero=some z) (b off n c:Nat) (news:List Value) (w:World) (hl:news.length=n*1) (h0:0<n) (hn:n<=maxLen) (hbig:n*4<=140737488355328)
  (hc:∀ j u,news[j]? = some u->w.cell? ⟨b,off+j,none⟩=some u) :
  Calls Tryz.prog 95 #[.slice (some ⟨b,off,none⟩) n c] w fun q w'=>∃ g cap,q=.returned (.slice (some ⟨g,0,none⟩) n cap)/\w.heap.size<=g/\n<=cap/\cap<=maxLen/\w'.heap[g]? = some (.cells (news.toArray++Builtin.zeroCells z.cells (cap-n)) 62 (0,0))/\Below w.heap.size w w':=by
 have q22:∀ (w:World) (a:Option Addr) (n c n' c':Nat),(binOp .eql 71 (.slice a n c) (.slice none n' c')).run Tryz.prog w=.ok (.bool a.isNone) w:=fun w a n c n' c'=>Lib.run_eql_slice_nil w _ _ a n c n' c' Tryz.underlying71;have A:Aside (∀ j u,news[j]? = some u->w.cell? ⟨b,off+j,none⟩=some u):=hc;clear hc;obtain ⟨zc,hzc⟩:∃ zc:Nat->Array Value,∀ m,Builtin.zeroCells z.cells m=zc m:=⟨_,fun _=>rfl⟩
 go_enter Tryz.func95,Tryz.ntmps95
 go_wp2_with (at_builtin;refine Aj6 rfl _ _ 71 62 rfl i z Tryz.underlying71 hi hz (some ⟨w.heap.size,0,none⟩) rfl _ rfl n news ?gives h0 hn ?fit zc hzc ?_)
 case gives=>rw [hs];exact Ajz hl fun j u hj=>Lib.cell?_alloc_some _ (A.out j u hj)
 case fit=>rw [hb];exact hbig
 intro cap h1 h2
 go_wp2
 go_ret
 refine ⟨_,cap,rfl,Nat.le_succ _,h1,h2,?_,?_⟩
 ·rw [hzc];show ((w.heap.push (Obj.cells #[] 62)).push _)[w.heap.size+1]? = _;rw [show w.heap.size+1=(w.heap.push (Obj.cells #[] 62)).size from (Array.size_push ..).symm,Array.getElem?_push_size]
 ·refine ⟨rfl,rfl,rfl,?_,fun k hk=>?_⟩
  ·show w.heap.size<=((w.heap.push (Obj.cells #[] 62)).push _).size;rw [Array.size_push,Array.size_push];exact Nat.le_trans (Nat.le_succ _) (Nat.le_succ _)
  ·show ((w.heap.push (Obj.cells #[] 62)).push _)[k]? = _;rw [Array.getElem?_push,if_neg (by rw [Array.size_push];omega),Array.getElem?_push,if_neg (by omega)]
set_option maxHeartbeats 2000000 in
set_option maxRecDepth 100000 in
theorem none_ (n c:Nat) (w:World):Calls Tryz.prog 95 #[.slice none n c] w fun e w'=>e=.returned (.slice none 0 0)/\w'=w:=by
 have q22:∀ (w:World) (a:Option Addr) (n c n' c':Nat),(binOp .eql 71 (.slice a n c) (.slice none n' c')).run Tryz.prog w=.ok (.bool a.isNone) w:=fun w a n c n' c'=>Lib.run_eql_slice_nil w _ _ a n c n' c' Tryz.underlying71
 go_enter Tryz.func95,Tryz.ntmps95
 go_wp2
 go_ret
 exact ⟨rfl,rfl⟩
theorem ok:∃ z,CloneOK Tryz.prog 95 62 1 4 z:=by
 obtain ⟨i,hi,h2⟩:=Option.map_eq_some_iff.1 infoE;simp only [Prod.mk.injEq] at h2;have hz:=zeroE;rw [hi] at hz;obtain ⟨z,hz,hz2⟩:=Option.map_eq_some_iff.1 hz;rw [Bool.and_eq_true] at hz2;exact ⟨z,fun b off n c news w hl h0 hn hb hc=>copied i z hi h2.1 h2.2 hz b off n c news w hl h0 hn hb hc,none_,fun a c w=>empty a c w,Nat.eq_of_beq_eq_true hz2.1,fun u hu=>List.all_eq_true.1 hz2.2 u hu,by decide⟩
end Go.Own.Clo95
