/- What it asks of this program. No conditions. -/
import Derived.Test.YtcbhcnkfefbddaaGreatDoorProg
import Derived.Shelf.RegionOpenPlain
import Derived.Lib.Strings
import Derived.Lib.Slices
import Derived.Lib.Walk
import Derived.Lib.Builder
import Derived.Lib.AppendStr
import Derived.Lib.UnsafeStr
import Derived.Lib.MakeNoZero
import Derived.WalkKit
import Derived.Laws.Externs
import Derived.Laws.BitsLemmas
import Derived.Test.YtcbhcnkfefbddaaGreatDoorOwn7
set_option linter.all false
open Option renaming map_eq_some_iff->aA
open Array renaming getElem?_modify->aM

namespace Go.aS.Ds
open Go.Proofs Go.Lib Go.RowKit
theorem Xu:(Tryz.prog.info? 156).map (·.size)=some 2:=by kernel_rfl
theorem akJ:liesAt Tryz.prog Tryz.prog.depth 156 (2 / Tryz.prog.cellsOf 156) 0 156 1=true:=by kernel_rfl
theorem akz:(Tryz.prog.info? 5).map (λi=>(i.zero,i.size,i.bytes))=some (some (.int .u8 0),1,1):=by kernel_rfl
theorem agS:Tryz.prog.cellsOf 5=1:=by kernel_rfl
theorem akA:∃i:TypeInfo,Tryz.prog.info? 5=some i/\i.zero=some (.int .u8 0)/\i.size=1/\i.bytes=1:=by
 obtain⟨i,I,aa⟩:=aA.1 akz;simp only[Prod.mk.injEq]at aa;exact⟨i,I,aa⟩
set_option maxHeartbeats 2000000 in
set_option maxRecDepth 100000 in
theorem agX(b:Nat)(w:World)(aO:w.cell? ⟨b,0,none⟩=some (.pointer (some ⟨b,0,none⟩))):
  Calls Tryz.prog 105 #[.pointer (some ⟨b,0,none⟩)] w λe w'=>e=.returned (.tuple #[])/\w'=w:=by
 obtain⟨j,aH,_⟩:=aA.1 Xu
 go_enter Tryz.func105,Tryz.ntmps105
 go_wp2
 rw[Lib.run_neq_ptr_same w _ Tryz.underlying154 aH]
 go_wp2
 go_end0
 exact⟨rfl,rfl⟩
set_option maxHeartbeats 2000000 in
set_option maxRecDepth 100000 in
theorem agW(b:Nat)(w:World)(aO:w.cell? ⟨b,0,none⟩=some (.pointer none))(l7:w.shape? b=some (156,2))(yV:w.frozen? ⟨b,0,none⟩=false):
  Calls Tryz.prog 105 #[.pointer (some ⟨b,0,none⟩)] w λe w'=>e=.returned (.tuple #[])/\w'=w.setCell ⟨b,0,none⟩ (.pointer (some ⟨b,0,none⟩)):=by
 obtain⟨j,aH,tg⟩:=aA.1 Xu
 go_enter Tryz.func105,Tryz.ntmps105
 go_wp2
 rw[Lib.run_to_unsafe w ⟨b,0,none⟩ Tryz.underlying154 Tryz.underlying197 aH (by rw[tg];decide) l7 (Nat.zero_lt_succ 1)];simp only[Result.andThen];rw[Oper.upon_value]
 go_wp2
 rw[run_callFunc_extern Tryz.func130 (by kernel_rfl) (by kernel_rfl) (by kernel_rfl) (e:=Extern.AbiNoEscape.same) (by kernel_rfl)];rw[Lib.run_noEscape];simp only[Result.andThen];rw[Oper.upon_value]
 go_wp2
 rw[Lib.run_from_unsafe w ⟨b,0,none⟩ Tryz.underlying197 Tryz.underlying154 aH l7 akJ];simp only[Result.andThen];rw[Oper.upon_value]
 go_wp2
 go_end0
 exact⟨rfl,rfl⟩
structure oC(b:Nat)(w w':World):Prop where
 os:w'.os=w.os
 tape:w'.tape=w.tape
 output:w'.output=w.output
 size:w'.heap.size=w.heap.size
 block:∀k,k≠b->w'.heap[k]?=w.heap[k]?
theorem oC.set(b i:Nat)(w:World)(u:Value):oC b w (w.setCell ⟨b,i,none⟩ u):=
 ⟨rfl,rfl,rfl,by simp[World.setCell],λk aj=>Below.heap_setCell w ⟨b,i,none⟩ u k aj⟩
theorem lF{w:World}{b:Nat}{p v q:Value}{t:TypeId}{fr:Nat×Nat}(ag:w.heap[b]?=some (.cells #[p,v] t fr)):(w.setCell ⟨b,0,none⟩ q).heap[b]?=some (.cells #[q,v] t fr):=by
 simp[World.setCell,aM,ag]
theorem jn{w:World}{b:Nat}{p v q:Value}{t:TypeId}{fr:Nat×Nat}(ag:w.heap[b]?=some (.cells #[p,v] t fr)):(w.setCell ⟨b,1,none⟩ q).heap[b]?=some (.cells #[p,q] t fr):=by
 simp[World.setCell,aM,ag]
theorem copy(b:Nat)(w:World)(p v:Value)(ag:w.heap[b]?=some (.cells #[p,v] 156 (0,0)))(af:p=.pointer none∨p=.pointer (some ⟨b,0,none⟩)):
  Calls Tryz.prog 105 #[.pointer (some ⟨b,0,none⟩)] w λe w'=>e=.returned (.tuple #[])/\w'.heap[b]?=some (.cells #[.pointer (some ⟨b,0,none⟩),v] 156 (0,0))/\oC b w w':=by
 rcases af with rfl|rfl
 .refine (agW b w (by rw[Lib.cell_of_heap ag];rfl) (by simp[World.shape?,ag]) (Lib.frozen_of_heap ag 0)).mono ?_;rintro e w' ⟨rfl,rfl⟩;exact⟨rfl,lF ag,oC.set b 0 w _⟩
 .refine (agX b w (by rw[Lib.cell_of_heap ag];rfl)).mono ?_;rintro e w' ⟨rfl,rfl⟩;exact⟨rfl,ag,rfl,rfl,rfl,rfl,λ_ _=>rfl⟩
theorem Xe{w w':World}{e n:Nat}{v:Value}{xs:List Value}(h:w.ownsRow 0 e 1 v n xs)(aj:∀k,v.ownBlock=some k->w'.heap[k]?=w.heap[k]?):w'.ownsRow 0 e 1 v n xs:=by
 obtain⟨I,aa⟩:=h;refine⟨I,?_⟩;rcases aa with h|⟨g,cap,cur,rfl,aW,bO,c7⟩
 .exact .inl h
 .exact .inr ⟨g,cap,cur,rfl,aW,(aj g rfl).trans bO,c7⟩
set_option maxHeartbeats 2000000 in
set_option maxRecDepth 100000 in
theorem write(b:Nat)(w:World)(p v:Value)(n:Nat)(xs:List Value)(s:ByteArray)(ag:w.heap[b]?=some (.cells #[p,v] 156 (0,0)))(af:p=.pointer none∨p=.pointer (some ⟨b,0,none⟩))(ly:w.ownsRow 0 5 1 v n xs)(cI:v.ownBlock≠some b)(hlen:n+s.size<=140737488355328):
  Calls Tryz.prog 86 #[.pointer (some ⟨b,0,none⟩),.string s] w λe w'=>e=.returned (.tuple #[.int .i64 s.size,.nilIface]) /\
   ∃gN,w'.heap[b]?=some (.cells #[.pointer (some ⟨b,0,none⟩),gN] 156 (0,0))/\w'.ownsRow 0 5 1 gN (n+s.size) (xs++Lib.strCells s)/\(∀k,gN.ownBlock=some k->v.ownBlock=some k∨w.heap.size<=k) /\
    w'.os=w.os/\w'.tape=w.tape/\w'.output=w.output/\w.heap.size<=w'.heap.size/\∀k,k<w.heap.size->k≠b->v.ownBlock≠some k->w'.heap[k]?=w.heap[k]?:=by
 obtain⟨i0,hi,OH,OI,pP⟩:=akA;have amb:∀args w,(callFunc 105 args).run Tryz.prog w=.ok (.enter 105 args) w:=enters_of Tryz.func105 (by kernel_rfl) rfl;have aiz:b<w.heap.size:=by
  rcases Nat.lt_or_ge b w.heap.size with da|da
  .exact da
  .simp [Array.getElem?_eq_none da]at ag
 go_enter Tryz.func86,Tryz.ntmps86
 go_wp2_with (go_at_fn 105;refine(copy b _ p v ag af).mono ?_)
 rintro e w1 ⟨rfl,j9,iV⟩;have ajK:w1.ownsRow 0 5 1 v n xs:=Xe ly λk aj=>iV.block k (λe=>cI (by rw[aj,e]));have wU:w1.cell? ⟨b,0,none⟩=some (.pointer (some ⟨b,0,none⟩)):=by rw[Lib.cell_of_heap j9];rfl
 have cF:w1.cell? ⟨b,1,none⟩=some v:=by rw[Lib.cell_of_heap j9];rfl
 go_wp2_with (at_builtin;refine Yk rfl _ _ 148 9 rfl 5 i0 Tryz.underlying148 Tryz.underlying9 hi OH OI pP _ _ _ rfl ajK s rfl hlen ?_)
 intro gN w2 Ev yW kz;have bU:b<w1.heap.size:=by rw[iV.size];exact aiz
 have eS:w2.heap[b]?=some (.cells #[.pointer (some ⟨b,0,none⟩),v] 156 (0,0)):=by
  rw[yW.block b bU (λe=>cI e.symm)];exact j9
 have d0:w2.cell? ⟨b,0,none⟩=some (.pointer (some ⟨b,0,none⟩)):=by rw[Lib.cell_of_heap eS];rfl
 have d1:w2.cell? ⟨b,1,none⟩=some v:=by rw[Lib.cell_of_heap eS];rfl
 have f1:w2.frozen? ⟨b,1,none⟩=false:=Lib.frozen_of_heap eS 1;obtain⟨HE,eG,cap,rfl⟩:∃HE eG cap,gN=.slice HE eG cap:=by
  rcases Ev.2 with⟨av,_⟩|⟨g,cap,cur,av,_⟩
  .exact ⟨_,_,_,av⟩
  .exact ⟨_,_,_,av⟩
 go_wp2
 go_ret2
 have N5:∀k,(Value.slice HE eG cap).ownBlock=some k->k≠b:=λk aj e=>by
  rcases kz k aj with h|h
  .exact cI (by rw[h,e])
  .omega
 refine⟨rfl,_,jn eS,Xe Ev λk aj=>(oC.set b 1 w2 _).block k (N5 k aj),λk aj=>?_,?_,?_,?_,?_,λk aj I aa=>?_⟩
 .rw [<-iV.size];exact kz k aj
 .exact yW.os.trans iV.os
 .exact yW.tape.trans iV.tape
 .exact yW.output.trans iV.output
 .have:=(oC.set b 1 w2 (.slice HE eG cap)).size;have:=yW.size;have:=iV.size;omega
 .rw [(oC.set b 1 w2 _).block k I,yW.block k (by rw[iV.size];exact aj) (λe=>aa e.symm),iV.block k I]
end Go.aS.Ds
