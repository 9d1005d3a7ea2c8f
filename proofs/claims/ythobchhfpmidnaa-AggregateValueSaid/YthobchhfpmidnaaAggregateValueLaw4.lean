/- What the functions that the law reaches answer. No conditions. -/
import Derived.Shelf.SlicesE.Clone
import Derived.Lib.JoinLaws
import Derived.Test.YthobchhfpmidnaaProg
import Derived.Test.YthobchhfpmidnaaOwn19
import Derived.Test.YthobchhfpmidnaaOwn31
set_option linter.all false
namespace Go.Own.Clo13
open Go.Proofs Go.Lib Go.RowKit Go.Shelf
theorem infoE:(Try.prog.info? 48).map (fun i=>(i.size,i.bytes))=some (5,48):=by kernel_rfl
theorem zeroE:((Try.prog.info? 48).bind (·.zero)).map (fun z=>Nat.beq z.cells.size 5&&z.cells.toList.all Value.oneCell')=some true:=by kernel_rfl
set_option maxHeartbeats 2000000 in
set_option maxRecDepth 100000 in
theorem empty (a:Addr) (c:Nat) (w:World):Calls Try.prog 13 #[.slice (some a) 0 c] w fun e w'=>e=.returned (.slice (some ⟨w.heap.size,0,none⟩) 0 0)∧w'.heap[w.heap.size]? = some (.cells #[] 48 (0,0))∧Below w.heap.size w w':=by
 have q22:∀ (w:World) (a:Option Addr) (n c n' c':Nat),(binOp .eql 38 (.slice a n c) (.slice none n' c')).run Try.prog w=.ok (.bool a.isNone) w:=fun w a n c n' c'=>Lib.run_eql_slice_nil w _ _ a n c n' c' Try.underlying38
 obtain ⟨i,hi,h2⟩:=Option.map_eq_some_iff.1 infoE
 go_enter Try.func13,Try.ntmps13
 go_wp2_with (at_builtin;refine wpList_append_room_src _ rfl _ _ 38 38 rfl 48 i Try.underlying38 hi w.heap.size 0 0 0 rfl _ rfl 0 [] ?src (Nat.le_refl _) (by intro j hj;simp at hj) (by intro j hj;simp at hj) ?_)
 case src=>exact Src.ofSlice _ Try.underlying38 a 0 c [] (by simp) (by intro j u hj;simp at hj) (by intro u hu;cases hu)
 go_ret
 refine ⟨rfl,?_,(Below.refl _ w).alloc (Nat.le_refl _) _⟩
 show (w.heap.push (Obj.cells #[] 48))[w.heap.size]? = _
 rw [Array.getElem?_push_size]
set_option maxHeartbeats 2000000 in
set_option maxRecDepth 100000 in
theorem copied (i:TypeInfo) (z:Value) (hi:Try.prog.info? 48=some i) (hs:i.size=5) (hb:i.bytes=48) (hz:i.zero=some z) (b off n c:Nat) (news:List Value) (w:World) (hl:news.length=n*5) (h0:0<n) (hn:n≤maxLen) (hbig:n*48≤140737488355328)
  (hc:∀ j u,news[j]? = some u→w.cell? ⟨b,off+j,none⟩=some u) :
  Calls Try.prog 13 #[.slice (some ⟨b,off,none⟩) n c] w fun q w'=>∃ g cap,q=.returned (.slice (some ⟨g,0,none⟩) n cap)∧w.heap.size≤g∧n≤cap∧cap≤maxLen∧w'.heap[g]? = some (.cells (news.toArray++Builtin.zeroCells z.cells (cap-n)) 48 (0,0))∧Below w.heap.size w w':=by
 have q22:∀ (w:World) (a:Option Addr) (n c n' c':Nat),(binOp .eql 38 (.slice a n c) (.slice none n' c')).run Try.prog w=.ok (.bool a.isNone) w:=fun w a n c n' c'=>Lib.run_eql_slice_nil w _ _ a n c n' c' Try.underlying38
 have A:Aside (∀ j u,news[j]? = some u→w.cell? ⟨b,off+j,none⟩=some u):=hc
 clear hc
 obtain ⟨zc,hzc⟩:∃ zc:Nat→Array Value,∀ m,Builtin.zeroCells z.cells m=zc m:=⟨_,fun _=>rfl⟩
 go_enter Try.func13,Try.ntmps13
 go_wp2_with (at_builtin;refine wpList_clone rfl _ _ 38 48 rfl i z Try.underlying38 hi hz (some ⟨w.heap.size,0,none⟩) rfl _ rfl n news ?gives h0 hn ?fit zc hzc ?_)
 case gives=>rw [hs];exact gives_slice hl fun j u hj=>Lib.cell?_alloc_some _ (A.out j u hj)
 case fit=>rw [hb];exact hbig
 intro cap h1 h2
 go_wp2
 go_ret
 refine ⟨_,cap,rfl,Nat.le_succ _,h1,h2,?_,?_⟩
 ·rw [hzc]
  show ((w.heap.push (Obj.cells #[] 48)).push _)[w.heap.size+1]? = _
  rw [show w.heap.size+1=(w.heap.push (Obj.cells #[] 48)).size from (Array.size_push ..).symm,Array.getElem?_push_size]
 ·refine ⟨rfl,rfl,rfl,?_,fun k hk=>?_⟩
  ·show w.heap.size≤((w.heap.push (Obj.cells #[] 48)).push _).size
   rw [Array.size_push,Array.size_push];exact Nat.le_trans (Nat.le_succ _) (Nat.le_succ _)
  ·show ((w.heap.push (Obj.cells #[] 48)).push _)[k]? = _
   rw [Array.getElem?_push,if_neg (by rw [Array.size_push];omega),Array.getElem?_push,if_neg (by omega)]
set_option maxHeartbeats 2000000 in
set_option maxRecDepth 100000 in
theorem none_ (n c:Nat) (w:World):Calls Try.prog 13 #[.slice none n c] w fun e w'=>e=.returned (.slice none 0 0)/\w'=w:=by
 have q22:∀ (w:World) (a:Option Addr) (n c n' c':Nat),(binOp .eql 38 (.slice a n c) (.slice none n' c')).run Try.prog w=.ok (.bool a.isNone) w:=fun w a n c n' c'=>Lib.run_eql_slice_nil w _ _ a n c n' c' Try.underlying38
 go_enter Try.func13, Try.ntmps13
 go_wp2
 go_ret
 exact ⟨rfl,rfl⟩
theorem ok:∃ z,CloneOK Try.prog 13 48 5 48 z:=by
 obtain ⟨i,hi,h2⟩:=Option.map_eq_some_iff.1 infoE
 simp only [Prod.mk.injEq] at h2
 have hz:=zeroE
 rw [hi] at hz
 obtain ⟨z,hz,hz2⟩:=Option.map_eq_some_iff.1 hz
 rw [Bool.and_eq_true] at hz2
 exact ⟨z,fun b off n c news w hl h0 hn hb hc=>copied i z hi h2.1 h2.2 hz b off n c news w hl h0 hn hb hc,fun n c w=>none_ n c w,fun a c w=>empty a c w,Nat.eq_of_beq_eq_true hz2.1,fun u hu=>List.all_eq_true.1 hz2.2 u hu,by decide⟩
end Go.Own.Clo13
namespace Go.Own.Clo104
open Go.Proofs Go.Lib Go.RowKit Go.Shelf
theorem infoE:(Try.prog.info? 9).map (fun i=>(i.size,i.bytes))=some (1,16):=by kernel_rfl
theorem zeroE:((Try.prog.info? 9).bind (·.zero)).map (fun z=>Nat.beq z.cells.size 1&&z.cells.toList.all Value.oneCell')=some true:=by kernel_rfl
set_option maxHeartbeats 2000000 in
set_option maxRecDepth 100000 in
theorem empty (a:Addr) (c:Nat) (w:World):Calls Try.prog 104 #[.slice (some a) 0 c] w fun e w'=>e=.returned (.slice (some ⟨w.heap.size,0,none⟩) 0 0)∧w'.heap[w.heap.size]? = some (.cells #[] 9 (0,0))∧Below w.heap.size w w':=by
 have q22:∀ (w:World) (a:Option Addr) (n c n' c':Nat),(binOp .eql 23 (.slice a n c) (.slice none n' c')).run Try.prog w=.ok (.bool a.isNone) w:=fun w a n c n' c'=>Lib.run_eql_slice_nil w _ _ a n c n' c' Try.underlying23
 obtain ⟨i,hi,h2⟩:=Option.map_eq_some_iff.1 infoE
 go_enter Try.func104,Try.ntmps104
 go_wp2_with (at_builtin;refine wpList_append_room_src _ rfl _ _ 23 23 rfl 9 i Try.underlying23 hi w.heap.size 0 0 0 rfl _ rfl 0 [] ?src (Nat.le_refl _) (by intro j hj;simp at hj) (by intro j hj;simp at hj) ?_)
 case src=>exact Src.ofSlice _ Try.underlying23 a 0 c [] (by simp) (by intro j u hj;simp at hj) (by intro u hu;cases hu)
 go_ret
 refine ⟨rfl,?_,(Below.refl _ w).alloc (Nat.le_refl _) _⟩
 show (w.heap.push (Obj.cells #[] 9))[w.heap.size]? = _
 rw [Array.getElem?_push_size]
set_option maxHeartbeats 2000000 in
set_option maxRecDepth 100000 in
theorem copied (i:TypeInfo) (z:Value) (hi:Try.prog.info? 9=some i) (hs:i.size=1) (hb:i.bytes=16) (hz:i.zero=some z) (b off n c:Nat) (news:List Value) (w:World) (hl:news.length=n*1) (h0:0<n) (hn:n≤maxLen) (hbig:n*16≤140737488355328)
  (hc:∀ j u,news[j]? = some u→w.cell? ⟨b,off+j,none⟩=some u) :
  Calls Try.prog 104 #[.slice (some ⟨b,off,none⟩) n c] w fun q w'=>∃ g cap,q=.returned (.slice (some ⟨g,0,none⟩) n cap)∧w.heap.size≤g∧n≤cap∧cap≤maxLen∧w'.heap[g]? = some (.cells (news.toArray++Builtin.zeroCells z.cells (cap-n)) 9 (0,0))∧Below w.heap.size w w':=by
 have q22:∀ (w:World) (a:Option Addr) (n c n' c':Nat),(binOp .eql 23 (.slice a n c) (.slice none n' c')).run Try.prog w=.ok (.bool a.isNone) w:=fun w a n c n' c'=>Lib.run_eql_slice_nil w _ _ a n c n' c' Try.underlying23
 have A:Aside (∀ j u,news[j]? = some u→w.cell? ⟨b,off+j,none⟩=some u):=hc
 clear hc
 obtain ⟨zc,hzc⟩:∃ zc:Nat→Array Value,∀ m,Builtin.zeroCells z.cells m=zc m:=⟨_,fun _=>rfl⟩
 go_enter Try.func104,Try.ntmps104
 go_wp2_with (at_builtin;refine wpList_clone rfl _ _ 23 9 rfl i z Try.underlying23 hi hz (some ⟨w.heap.size,0,none⟩) rfl _ rfl n news ?gives h0 hn ?fit zc hzc ?_)
 case gives=>rw [hs];exact gives_slice hl fun j u hj=>Lib.cell?_alloc_some _ (A.out j u hj)
 case fit=>rw [hb];exact hbig
 intro cap h1 h2
 go_wp2
 go_ret
 refine ⟨_,cap,rfl,Nat.le_succ _,h1,h2,?_,?_⟩
 ·rw [hzc]
  show ((w.heap.push (Obj.cells #[] 9)).push _)[w.heap.size+1]? = _
  rw [show w.heap.size+1=(w.heap.push (Obj.cells #[] 9)).size from (Array.size_push ..).symm,Array.getElem?_push_size]
 ·refine ⟨rfl,rfl,rfl,?_,fun k hk=>?_⟩
  ·show w.heap.size≤((w.heap.push (Obj.cells #[] 9)).push _).size
   rw [Array.size_push,Array.size_push];exact Nat.le_trans (Nat.le_succ _) (Nat.le_succ _)
  ·show ((w.heap.push (Obj.cells #[] 9)).push _)[k]? = _
   rw [Array.getElem?_push,if_neg (by rw [Array.size_push];omega),Array.getElem?_push,if_neg (by omega)]
set_option maxHeartbeats 2000000 in
set_option maxRecDepth 100000 in
theorem none_ (n c:Nat) (w:World):Calls Try.prog 104 #[.slice none n c] w fun e w'=>e=.returned (.slice none 0 0)/\w'=w:=by
 have q22:∀ (w:World) (a:Option Addr) (n c n' c':Nat),(binOp .eql 23 (.slice a n c) (.slice none n' c')).run Try.prog w=.ok (.bool a.isNone) w:=fun w a n c n' c'=>Lib.run_eql_slice_nil w _ _ a n c n' c' Try.underlying23
 go_enter Try.func104, Try.ntmps104
 go_wp2
 go_ret
 exact ⟨rfl,rfl⟩
theorem ok:∃ z,CloneOK Try.prog 104 9 1 16 z:=by
 obtain ⟨i,hi,h2⟩:=Option.map_eq_some_iff.1 infoE
 simp only [Prod.mk.injEq] at h2
 have hz:=zeroE
 rw [hi] at hz
 obtain ⟨z,hz,hz2⟩:=Option.map_eq_some_iff.1 hz
 rw [Bool.and_eq_true] at hz2
 exact ⟨z,fun b off n c news w hl h0 hn hb hc=>copied i z hi h2.1 h2.2 hz b off n c news w hl h0 hn hb hc,fun n c w=>none_ n c w,fun a c w=>empty a c w,Nat.eq_of_beq_eq_true hz2.1,fun u hu=>List.all_eq_true.1 hz2.2 u hu,by decide⟩
end Go.Own.Clo104
namespace Go.Own.Clo112
open Go.Proofs Go.Lib Go.RowKit Go.Shelf
theorem infoE:(Try.prog.info? 28).map (fun i=>(i.size,i.bytes))=some (3,32):=by kernel_rfl
theorem zeroE:((Try.prog.info? 28).bind (·.zero)).map (fun z=>Nat.beq z.cells.size 3&&z.cells.toList.all Value.oneCell')=some true:=by kernel_rfl
set_option maxHeartbeats 2000000 in
set_option maxRecDepth 100000 in
theorem empty (a:Addr) (c:Nat) (w:World):Calls Try.prog 112 #[.slice (some a) 0 c] w fun e w'=>e=.returned (.slice (some ⟨w.heap.size,0,none⟩) 0 0)∧w'.heap[w.heap.size]? = some (.cells #[] 28 (0,0))∧Below w.heap.size w w':=by
 have q22:∀ (w:World) (a:Option Addr) (n c n' c':Nat),(binOp .eql 29 (.slice a n c) (.slice none n' c')).run Try.prog w=.ok (.bool a.isNone) w:=fun w a n c n' c'=>Lib.run_eql_slice_nil w _ _ a n c n' c' Try.underlying29
 obtain ⟨i,hi,h2⟩:=Option.map_eq_some_iff.1 infoE
 go_enter Try.func112,Try.ntmps112
 go_wp2_with (at_builtin;refine wpList_append_room_src _ rfl _ _ 29 29 rfl 28 i Try.underlying29 hi w.heap.size 0 0 0 rfl _ rfl 0 [] ?src (Nat.le_refl _) (by intro j hj;simp at hj) (by intro j hj;simp at hj) ?_)
 case src=>exact Src.ofSlice _ Try.underlying29 a 0 c [] (by simp) (by intro j u hj;simp at hj) (by intro u hu;cases hu)
 go_ret
 refine ⟨rfl,?_,(Below.refl _ w).alloc (Nat.le_refl _) _⟩
 show (w.heap.push (Obj.cells #[] 28))[w.heap.size]? = _
 rw [Array.getElem?_push_size]
set_option maxHeartbeats 2000000 in
set_option maxRecDepth 100000 in
theorem copied (i:TypeInfo) (z:Value) (hi:Try.prog.info? 28=some i) (hs:i.size=3) (hb:i.bytes=32) (hz:i.zero=some z) (b off n c:Nat) (news:List Value) (w:World) (hl:news.length=n*3) (h0:0<n) (hn:n≤maxLen) (hbig:n*32≤140737488355328)
  (hc:∀ j u,news[j]? = some u→w.cell? ⟨b,off+j,none⟩=some u) :
  Calls Try.prog 112 #[.slice (some ⟨b,off,none⟩) n c] w fun q w'=>∃ g cap,q=.returned (.slice (some ⟨g,0,none⟩) n cap)∧w.heap.size≤g∧n≤cap∧cap≤maxLen∧w'.heap[g]? = some (.cells (news.toArray++Builtin.zeroCells z.cells (cap-n)) 28 (0,0))∧Below w.heap.size w w':=by
 have q22:∀ (w:World) (a:Option Addr) (n c n' c':Nat),(binOp .eql 29 (.slice a n c) (.slice none n' c')).run Try.prog w=.ok (.bool a.isNone) w:=fun w a n c n' c'=>Lib.run_eql_slice_nil w _ _ a n c n' c' Try.underlying29
 have A:Aside (∀ j u,news[j]? = some u→w.cell? ⟨b,off+j,none⟩=some u):=hc
 clear hc
 obtain ⟨zc,hzc⟩:∃ zc:Nat→Array Value,∀ m,Builtin.zeroCells z.cells m=zc m:=⟨_,fun _=>rfl⟩
 go_enter Try.func112,Try.ntmps112
 go_wp2_with (at_builtin;refine wpList_clone rfl _ _ 29 28 rfl i z Try.underlying29 hi hz (some ⟨w.heap.size,0,none⟩) rfl _ rfl n news ?gives h0 hn ?fit zc hzc ?_)
 case gives=>rw [hs];exact gives_slice hl fun j u hj=>Lib.cell?_alloc_some _ (A.out j u hj)
 case fit=>rw [hb];exact hbig
 intro cap h1 h2
 go_wp2
 go_ret
 refine ⟨_,cap,rfl,Nat.le_succ _,h1,h2,?_,?_⟩
 ·rw [hzc]
  show ((w.heap.push (Obj.cells #[] 28)).push _)[w.heap.size+1]? = _
  rw [show w.heap.size+1=(w.heap.push (Obj.cells #[] 28)).size from (Array.size_push ..).symm,Array.getElem?_push_size]
 ·refine ⟨rfl,rfl,rfl,?_,fun k hk=>?_⟩
  ·show w.heap.size≤((w.heap.push (Obj.cells #[] 28)).push _).size
   rw [Array.size_push,Array.size_push];exact Nat.le_trans (Nat.le_succ _) (Nat.le_succ _)
  ·show ((w.heap.push (Obj.cells #[] 28)).push _)[k]? = _
   rw [Array.getElem?_push,if_neg (by rw [Array.size_push];omega),Array.getElem?_push,if_neg (by omega)]
set_option maxHeartbeats 2000000 in
set_option maxRecDepth 100000 in
theorem none_ (n c:Nat) (w:World):Calls Try.prog 112 #[.slice none n c] w fun e w'=>e=.returned (.slice none 0 0)/\w'=w:=by
 have q22:∀ (w:World) (a:Option Addr) (n c n' c':Nat),(binOp .eql 29 (.slice a n c) (.slice none n' c')).run Try.prog w=.ok (.bool a.isNone) w:=fun w a n c n' c'=>Lib.run_eql_slice_nil w _ _ a n c n' c' Try.underlying29
 go_enter Try.func112, Try.ntmps112
 go_wp2
 go_ret
 exact ⟨rfl,rfl⟩
theorem ok:∃ z,CloneOK Try.prog 112 28 3 32 z:=by
 obtain ⟨i,hi,h2⟩:=Option.map_eq_some_iff.1 infoE
 simp only [Prod.mk.injEq] at h2
 have hz:=zeroE
 rw [hi] at hz
 obtain ⟨z,hz,hz2⟩:=Option.map_eq_some_iff.1 hz
 rw [Bool.and_eq_true] at hz2
 exact ⟨z,fun b off n c news w hl h0 hn hb hc=>copied i z hi h2.1 h2.2 hz b off n c news w hl h0 hn hb hc,fun n c w=>none_ n c w,fun a c w=>empty a c w,Nat.eq_of_beq_eq_true hz2.1,fun u hu=>List.all_eq_true.1 hz2.2 u hu,by decide⟩
end Go.Own.Clo112
