/- What the functions answer. No conditions. -/
import Derived.Shelf.SlicesE.Clone
import Derived.Lib.JoinLaws
import Derived.Test.YtcbhcnkfefbddaaGreatDoorProg
import Derived.Test.YtcbhcnkfefbddaaGreatDoorOwn20
import Derived.Test.YtcbhcnkfefbddaaGreatDoorOwn31
set_option linter.all false
open Option renaming map_eq_some_iff->aA
open Array renaming size_push->aM,getElem?_push_size->aQ,getElem?_push->a6
open Nat renaming le_succ->ba,le_refl->bo,eq_of_beq_eq_true->bB,le_trans->cc
open Bool renaming and_eq_true->bL
open List renaming all_eq_true->b3
open Prod.mk renaming injEq->b5
namespace Go.aS.UF
open Go.Proofs Go.Lib Go.RowKit Go.Shelf
def xj:(Tryz.prog.info? 37).map (λi=>(i.size,i.bytes))=some (2,8):=by kernel_rfl
def FJ:((Tryz.prog.info? 37).bind (·.zero)).map (λz=>Nat.beq z.cells.size 2&&z.cells.toList.all Value.oneCell')=some true:=by kernel_rfl
set_option maxHeartbeats 2000000 in
set_option maxRecDepth 100000 in
def empty(a:Addr)(c:Nat)(w:World):Calls Tryz.prog 44 #[.slice (some a) 0 c] w λe w'=>e=.returned (.slice (some ⟨w.heap.size,0,none⟩) 0 0)/\w'.heap[w.heap.size]?=some (.cells #[] 37 (0,0))/\Below w.heap.size w w':=by
 have xy:∀(w:World)(a:Option Addr)(n c eG c':Nat),(binOp .eql 30 (.slice a n c) (.slice none eG c')).run Tryz.prog w=.ok (.bool a.isNone) w:=λw a n c eG c'=>Lib.run_eql_slice_nil w _ _ a n c eG c' Tryz.underlying30;obtain⟨i,hi,aa⟩:=aA.1 xj
 go_enter Tryz.func44,Tryz.ntmps44
 go_wp2_with (at_builtin;refine wpList_append_room_src _ rfl _ _ 30 30 rfl 37 i Tryz.underlying30 hi w.heap.size 0 0 0 rfl _ rfl 0 [] ?src (bo _) (by intro j aH;simp at aH) (by intro j aH;simp at aH) ?_)
 case src=>exact Src.ofSlice _ Tryz.underlying30 a 0 c [] (by simp) (by intro j u aH;simp at aH) (by intro u hu;cases hu)
 go_ret
 refine⟨rfl,?_,(Below.refl _ w).alloc (bo _) _⟩;show(w.heap.push (Obj.cells #[] 37))[w.heap.size]?=_;rw[aQ]
set_option maxHeartbeats 2000000 in
set_option maxRecDepth 100000 in
def copied(i:TypeInfo)(z:Value)(hi:Tryz.prog.info? 37=some i)(ae:i.size=2)(ag:i.bytes=8)(aG:i.zero=some z)(b off n c:Nat)(news:List Value)(w:World)(hl:news.length=n*2)(aO:0<n)(ao:n<=maxLen)(Ea:n*8<=140737488355328)
  (ad:∀j u,news[j]?=some u->w.cell? ⟨b,off+j,none⟩=some u):
  Calls Tryz.prog 44 #[.slice (some ⟨b,off,none⟩) n c] w λq w'=>∃g cap,q=.returned (.slice (some ⟨g,0,none⟩) n cap)/\w.heap.size<=g/\n<=cap/\cap<=maxLen/\w'.heap[g]?=some (.cells (news.toArray++Builtin.zeroCells z.cells (cap-n)) 37 (0,0))/\Below w.heap.size w w':=by
 have xy:∀(w:World)(a:Option Addr)(n c eG c':Nat),(binOp .eql 30 (.slice a n c) (.slice none eG c')).run Tryz.prog w=.ok (.bool a.isNone) w:=λw a n c eG c'=>Lib.run_eql_slice_nil w _ _ a n c eG c' Tryz.underlying30;have A:Aside (∀j u,news[j]?=some u->w.cell? ⟨b,off+j,none⟩=some u):=ad;clear ad;obtain⟨lJ,kZ⟩:∃lJ:Nat->Array Value,∀m,Builtin.zeroCells z.cells m=lJ m:=⟨_,λ_=>rfl⟩
 go_enter Tryz.func44,Tryz.ntmps44
 go_wp2_with (at_builtin;refine J4 rfl _ _ 30 37 rfl i z Tryz.underlying30 hi aG (some ⟨w.heap.size,0,none⟩) rfl _ rfl n news ?gives aO ao ?fit lJ kZ ?_)
 case gives=>rw[ae];exact J_ hl λj u aH=>Lib.cell?_alloc_some _ (A.out j u aH)
 case fit=>rw[ag];exact Ea
 intro cap I aa
 go_wp2
 go_ret
 refine⟨_,cap,rfl,ba _,I,aa,?_,?_⟩
 .rw [kZ];show((w.heap.push (Obj.cells #[] 37)).push _)[w.heap.size+1]?=_;rw[show w.heap.size+1=(w.heap.push (Obj.cells #[] 37)).size from(aM ..).symm,aQ]
 .refine ⟨rfl,rfl,rfl,?_,λk aj=>?_⟩
  .show w.heap.size<=((w.heap.push (Obj.cells #[] 37)).push _).size;rw[aM,aM];exact cc (ba _) (ba _)
  .show ((w.heap.push (Obj.cells #[] 37)).push _)[k]?=_;rw[a6,if_neg (by rw[aM];omega),a6,if_neg (by omega)]
set_option maxHeartbeats 2000000 in
set_option maxRecDepth 100000 in
def none_(n c:Nat)(w:World):Calls Tryz.prog 44 #[.slice none n c] w λe w'=>e=.returned (.slice none 0 0)/\w'=w:=by
 have xy:∀(w:World)(a:Option Addr)(n c eG c':Nat),(binOp .eql 30 (.slice a n c) (.slice none eG c')).run Tryz.prog w=.ok (.bool a.isNone) w:=λw a n c eG c'=>Lib.run_eql_slice_nil w _ _ a n c eG c' Tryz.underlying30
 go_enter Tryz.func44,Tryz.ntmps44
 go_wp2
 go_ret
 exact⟨rfl,rfl⟩
def ok:∃z,Hm Tryz.prog 44 37 2 8 z:=by
 obtain⟨i,hi,aa⟩:=aA.1 xj;simp only[b5]at aa;have aG:=FJ;rw[hi]at aG;obtain⟨z,aG,pP⟩:=aA.1 aG;rw[bL]at pP;exact⟨z,λb off n c news w hl aO ao ag ad=>copied i z hi aa.1 aa.2 aG b off n c news w hl aO ao ag ad,none_,λa c w=>empty a c w,bB pP.1,λu hu=>b3.1 pP.2 u hu,by decide⟩
end Go.aS.UF
namespace Go.aS.UG
open Go.Proofs Go.Lib Go.RowKit Go.Shelf
def xj:(Tryz.prog.info? 35).map (λi=>(i.size,i.bytes))=some (1,4):=by kernel_rfl
def FJ:((Tryz.prog.info? 35).bind (·.zero)).map (λz=>Nat.beq z.cells.size 1&&z.cells.toList.all Value.oneCell')=some true:=by kernel_rfl
set_option maxHeartbeats 2000000 in
set_option maxRecDepth 100000 in
def empty(a:Addr)(c:Nat)(w:World):Calls Tryz.prog 53 #[.slice (some a) 0 c] w λe w'=>e=.returned (.slice (some ⟨w.heap.size,0,none⟩) 0 0)/\w'.heap[w.heap.size]?=some (.cells #[] 35 (0,0))/\Below w.heap.size w w':=by
 have xy:∀(w:World)(a:Option Addr)(n c eG c':Nat),(binOp .eql 59 (.slice a n c) (.slice none eG c')).run Tryz.prog w=.ok (.bool a.isNone) w:=λw a n c eG c'=>Lib.run_eql_slice_nil w _ _ a n c eG c' Tryz.underlying59;obtain⟨i,hi,aa⟩:=aA.1 xj
 go_enter Tryz.func53,Tryz.ntmps53
 go_wp2_with (at_builtin;refine wpList_append_room_src _ rfl _ _ 59 59 rfl 35 i Tryz.underlying59 hi w.heap.size 0 0 0 rfl _ rfl 0 [] ?src (bo _) (by intro j aH;simp at aH) (by intro j aH;simp at aH) ?_)
 case src=>exact Src.ofSlice _ Tryz.underlying59 a 0 c [] (by simp) (by intro j u aH;simp at aH) (by intro u hu;cases hu)
 go_ret
 refine⟨rfl,?_,(Below.refl _ w).alloc (bo _) _⟩;show(w.heap.push (Obj.cells #[] 35))[w.heap.size]?=_;rw[aQ]
set_option maxHeartbeats 2000000 in
set_option maxRecDepth 100000 in
def copied(i:TypeInfo)(z:Value)(hi:Tryz.prog.info? 35=some i)(ae:i.size=1)(ag:i.bytes=4)(aG:i.zero=some z)(b off n c:Nat)(news:List Value)(w:World)(hl:news.length=n*1)(aO:0<n)(ao:n<=maxLen)(Ea:n*4<=140737488355328)
  (ad:∀j u,news[j]?=some u->w.cell? ⟨b,off+j,none⟩=some u):
  Calls Tryz.prog 53 #[.slice (some ⟨b,off,none⟩) n c] w λq w'=>∃g cap,q=.returned (.slice (some ⟨g,0,none⟩) n cap)/\w.heap.size<=g/\n<=cap/\cap<=maxLen/\w'.heap[g]?=some (.cells (news.toArray++Builtin.zeroCells z.cells (cap-n)) 35 (0,0))/\Below w.heap.size w w':=by
 have xy:∀(w:World)(a:Option Addr)(n c eG c':Nat),(binOp .eql 59 (.slice a n c) (.slice none eG c')).run Tryz.prog w=.ok (.bool a.isNone) w:=λw a n c eG c'=>Lib.run_eql_slice_nil w _ _ a n c eG c' Tryz.underlying59;have A:Aside (∀j u,news[j]?=some u->w.cell? ⟨b,off+j,none⟩=some u):=ad;clear ad;obtain⟨lJ,kZ⟩:∃lJ:Nat->Array Value,∀m,Builtin.zeroCells z.cells m=lJ m:=⟨_,λ_=>rfl⟩
 go_enter Tryz.func53,Tryz.ntmps53
 go_wp2_with (at_builtin;refine J4 rfl _ _ 59 35 rfl i z Tryz.underlying59 hi aG (some ⟨w.heap.size,0,none⟩) rfl _ rfl n news ?gives aO ao ?fit lJ kZ ?_)
 case gives=>rw[ae];exact J_ hl λj u aH=>Lib.cell?_alloc_some _ (A.out j u aH)
 case fit=>rw[ag];exact Ea
 intro cap I aa
 go_wp2
 go_ret
 refine⟨_,cap,rfl,ba _,I,aa,?_,?_⟩
 .rw [kZ];show((w.heap.push (Obj.cells #[] 35)).push _)[w.heap.size+1]?=_;rw[show w.heap.size+1=(w.heap.push (Obj.cells #[] 35)).size from(aM ..).symm,aQ]
 .refine ⟨rfl,rfl,rfl,?_,λk aj=>?_⟩
  .show w.heap.size<=((w.heap.push (Obj.cells #[] 35)).push _).size;rw[aM,aM];exact cc (ba _) (ba _)
  .show ((w.heap.push (Obj.cells #[] 35)).push _)[k]?=_;rw[a6,if_neg (by rw[aM];omega),a6,if_neg (by omega)]
set_option maxHeartbeats 2000000 in
set_option maxRecDepth 100000 in
def none_(n c:Nat)(w:World):Calls Tryz.prog 53 #[.slice none n c] w λe w'=>e=.returned (.slice none 0 0)/\w'=w:=by
 have xy:∀(w:World)(a:Option Addr)(n c eG c':Nat),(binOp .eql 59 (.slice a n c) (.slice none eG c')).run Tryz.prog w=.ok (.bool a.isNone) w:=λw a n c eG c'=>Lib.run_eql_slice_nil w _ _ a n c eG c' Tryz.underlying59
 go_enter Tryz.func53,Tryz.ntmps53
 go_wp2
 go_ret
 exact⟨rfl,rfl⟩
def ok:∃z,Hm Tryz.prog 53 35 1 4 z:=by
 obtain⟨i,hi,aa⟩:=aA.1 xj;simp only[b5]at aa;have aG:=FJ;rw[hi]at aG;obtain⟨z,aG,pP⟩:=aA.1 aG;rw[bL]at pP;exact⟨z,λb off n c news w hl aO ao ag ad=>copied i z hi aa.1 aa.2 aG b off n c news w hl aO ao ag ad,none_,λa c w=>empty a c w,bB pP.1,λu hu=>b3.1 pP.2 u hu,by decide⟩
end Go.aS.UG
namespace Go.aS.UH
open Go.Proofs Go.Lib Go.RowKit Go.Shelf
def xj:(Tryz.prog.info? 3).map (λi=>(i.size,i.bytes))=some (1,8):=by kernel_rfl
def FJ:((Tryz.prog.info? 3).bind (·.zero)).map (λz=>Nat.beq z.cells.size 1&&z.cells.toList.all Value.oneCell')=some true:=by kernel_rfl
set_option maxHeartbeats 2000000 in
set_option maxRecDepth 100000 in
def empty(a:Addr)(c:Nat)(w:World):Calls Tryz.prog 97 #[.slice (some a) 0 c] w λe w'=>e=.returned (.slice (some ⟨w.heap.size,0,none⟩) 0 0)/\w'.heap[w.heap.size]?=some (.cells #[] 3 (0,0))/\Below w.heap.size w w':=by
 have xy:∀(w:World)(a:Option Addr)(n c eG c':Nat),(binOp .eql 74 (.slice a n c) (.slice none eG c')).run Tryz.prog w=.ok (.bool a.isNone) w:=λw a n c eG c'=>Lib.run_eql_slice_nil w _ _ a n c eG c' Tryz.underlying74;obtain⟨i,hi,aa⟩:=aA.1 xj
 go_enter Tryz.func97,Tryz.ntmps97
 go_wp2_with (at_builtin;refine wpList_append_room_src _ rfl _ _ 74 74 rfl 3 i Tryz.underlying74 hi w.heap.size 0 0 0 rfl _ rfl 0 [] ?src (bo _) (by intro j aH;simp at aH) (by intro j aH;simp at aH) ?_)
 case src=>exact Src.ofSlice _ Tryz.underlying74 a 0 c [] (by simp) (by intro j u aH;simp at aH) (by intro u hu;cases hu)
 go_ret
 refine⟨rfl,?_,(Below.refl _ w).alloc (bo _) _⟩;show(w.heap.push (Obj.cells #[] 3))[w.heap.size]?=_;rw[aQ]
set_option maxHeartbeats 2000000 in
set_option maxRecDepth 100000 in
def copied(i:TypeInfo)(z:Value)(hi:Tryz.prog.info? 3=some i)(ae:i.size=1)(ag:i.bytes=8)(aG:i.zero=some z)(b off n c:Nat)(news:List Value)(w:World)(hl:news.length=n*1)(aO:0<n)(ao:n<=maxLen)(Ea:n*8<=140737488355328)
  (ad:∀j u,news[j]?=some u->w.cell? ⟨b,off+j,none⟩=some u):
  Calls Tryz.prog 97 #[.slice (some ⟨b,off,none⟩) n c] w λq w'=>∃g cap,q=.returned (.slice (some ⟨g,0,none⟩) n cap)/\w.heap.size<=g/\n<=cap/\cap<=maxLen/\w'.heap[g]?=some (.cells (news.toArray++Builtin.zeroCells z.cells (cap-n)) 3 (0,0))/\Below w.heap.size w w':=by
 have xy:∀(w:World)(a:Option Addr)(n c eG c':Nat),(binOp .eql 74 (.slice a n c) (.slice none eG c')).run Tryz.prog w=.ok (.bool a.isNone) w:=λw a n c eG c'=>Lib.run_eql_slice_nil w _ _ a n c eG c' Tryz.underlying74;have A:Aside (∀j u,news[j]?=some u->w.cell? ⟨b,off+j,none⟩=some u):=ad;clear ad;obtain⟨lJ,kZ⟩:∃lJ:Nat->Array Value,∀m,Builtin.zeroCells z.cells m=lJ m:=⟨_,λ_=>rfl⟩
 go_enter Tryz.func97,Tryz.ntmps97
 go_wp2_with (at_builtin;refine J4 rfl _ _ 74 3 rfl i z Tryz.underlying74 hi aG (some ⟨w.heap.size,0,none⟩) rfl _ rfl n news ?gives aO ao ?fit lJ kZ ?_)
 case gives=>rw[ae];exact J_ hl λj u aH=>Lib.cell?_alloc_some _ (A.out j u aH)
 case fit=>rw[ag];exact Ea
 intro cap I aa
 go_wp2
 go_ret
 refine⟨_,cap,rfl,ba _,I,aa,?_,?_⟩
 .rw [kZ];show((w.heap.push (Obj.cells #[] 3)).push _)[w.heap.size+1]?=_;rw[show w.heap.size+1=(w.heap.push (Obj.cells #[] 3)).size from(aM ..).symm,aQ]
 .refine ⟨rfl,rfl,rfl,?_,λk aj=>?_⟩
  .show w.heap.size<=((w.heap.push (Obj.cells #[] 3)).push _).size;rw[aM,aM];exact cc (ba _) (ba _)
  .show ((w.heap.push (Obj.cells #[] 3)).push _)[k]?=_;rw[a6,if_neg (by rw[aM];omega),a6,if_neg (by omega)]
set_option maxHeartbeats 2000000 in
set_option maxRecDepth 100000 in
def none_(n c:Nat)(w:World):Calls Tryz.prog 97 #[.slice none n c] w λe w'=>e=.returned (.slice none 0 0)/\w'=w:=by
 have xy:∀(w:World)(a:Option Addr)(n c eG c':Nat),(binOp .eql 74 (.slice a n c) (.slice none eG c')).run Tryz.prog w=.ok (.bool a.isNone) w:=λw a n c eG c'=>Lib.run_eql_slice_nil w _ _ a n c eG c' Tryz.underlying74
 go_enter Tryz.func97,Tryz.ntmps97
 go_wp2
 go_ret
 exact⟨rfl,rfl⟩
def ok:∃z,Hm Tryz.prog 97 3 1 8 z:=by
 obtain⟨i,hi,aa⟩:=aA.1 xj;simp only[b5]at aa;have aG:=FJ;rw[hi]at aG;obtain⟨z,aG,pP⟩:=aA.1 aG;rw[bL]at pP;exact⟨z,λb off n c news w hl aO ao ag ad=>copied i z hi aa.1 aa.2 aG b off n c news w hl aO ao ag ad,none_,λa c w=>empty a c w,bB pP.1,λu hu=>b3.1 pP.2 u hu,by decide⟩
end Go.aS.UH
