/- What it asks of this program. No conditions. -/
import Derived.Test.YtcbhcnkfefbddaaGreatDoorProg
import Derived.Lib.Walk
import Derived.WalkKit
import Derived.Laws.BitsAllLaws
import Derived.Laws.BitsLemmas
import Derived.Shelf.RegionOpenPlain
import Derived.Lib.Strings
import Derived.Lib.Slices
import Derived.Lib.Builder
import Derived.Lib.AppendStr
import Derived.Lib.UnsafeStr
import Derived.Lib.MakeNoZero
import Derived.Laws.Externs
import Derived.Test.YtcbhcnkfefbddaaGreatDoorBase1
import Derived.Test.YtcbhcnkfefbddaaGreatDoorBase2
import Derived.Test.YtcbhcnkfefbddaaGreatDoorTopMultivaluedLaw2
import Derived.Test.YtcbhcnkfefbddaaGreatDoorTopMultivaluedLaw4
import Derived.Test.YtcbhcnkfefbddaaGreatDoorTopMultivaluedLaw6
import Derived.Test.YtcbhcnkfefbddaaGreatDoorOwn20
import Derived.Test.YtcbhcnkfefbddaaGreatDoorOwn31
set_option linter.all false
open Nat renaming le_refl->aA

namespace Go.aS.MA
open Go.Proofs Go.Lib Go.RowKit
set_option maxHeartbeats 2000000 in
set_option maxRecDepth 100000 in
theorem zero(w:World):Calls Tryz.prog 66 #[.int .u32 0] w λe w'=>e=.returned (.int .i64 32)/\w'=w:=by
 go_enter Tryz.func66,Tryz.ntmps66
 go_wp2
 all_goals go_ret
 all_goals exact⟨rfl,rfl⟩
set_option maxHeartbeats 2000000 in
set_option maxRecDepth 100000 in
theorem some_(n:Int)(aO:0<n)(I:n<4294967296)(k:Nat)(aj:k<32)(w:World)
  (n5:w.cell? ⟨0,(bits .and .u32 n (-n%4294967296)*125613361%4294967296 / 134217728).toNat,none⟩=some (.int .u8 (k:Int))):
  Calls Tryz.prog 66 #[.int .u32 n] w λe w'=>e=.returned (.int .i64 (k:Int))/\w'=w:=by
 have aG:(n==0)=false:=by simp;omega
 go_enter Tryz.func66,Tryz.ntmps66
 go_wp2
 all_goals go_ret
 all_goals exact⟨rfl,rfl⟩
end Go.aS.MA

namespace Go.aS.Ds
open Go.Proofs Go.Lib Go.RowKit
theorem mixed:Tryz.prog.follows .mixedOrders=true:=by kernel_rfl
theorem ahQ(w:World)(g n:Nat):w.grownBy (w.drew.freeze ⟨g,0,none⟩ n) (some g):=by
 unfold World.freeze
 split
 .exact ⟨rfl,rfl,rfl,aA _,λ_ _ _=>rfl⟩
 .refine ⟨rfl,rfl,rfl,by simp,λk aj cI=>?_⟩;simp only[Array.getElem?_modify];rw[if_neg (λe=>cI (by rw[e]))];rfl
theorem PN(W:World)(q:Option Addr):(Builtin.unsafeString_ #[180,3] 9 #[.pointer q,.int .i64 0]).run Tryz.prog W=.ok (.string .empty) W:=
 Lib.run_unsafeString_none W _ _ _ q
set_option maxHeartbeats 2000000 in
set_option maxRecDepth 100000 in
theorem alB(b g cap:Nat)(p:Value)(cur:Array Value)(w:World)(l:List UInt8)(ag:w.heap[b]?=some (.cells #[p,.slice (some ⟨g,0,none⟩) l.length cap] 156 (0,0)))(ak:w.heap[g]?=some (.cells cur 5 (0,0)))
  (Bc:l.length<=cap) (jx:cap<=maxLen) (n6:∀(j:Nat)(x:UInt8),l[j]?=some x->w.cell? ((⟨g,0,none⟩:Addr).add j)=some (.int .u8 x.toNat)) (ku:cur.size=cap) (aO:l≠[]):
  Calls Tryz.prog 87 #[.pointer (some ⟨b,0,none⟩)] w λe w'=>e=.returned (.string ⟨l.toArray⟩)/\w.grownBy w' (some g):=by
 have Il:l.length≠0:=by simpa using aO
 have cF:w.drew.cell? ⟨b,1,none⟩=some (.slice (some ⟨g,0,none⟩) l.length cap):=by
  have:w.drew.heap[b]?=some (.cells #[p,.slice (some ⟨g,0,none⟩) l.length cap] 156 (0,0)):=ag;rw[Lib.cell_of_heap this];rfl
 have No:(Builtin.unsafeSliceData_ #[148] 180 #[.slice (some ⟨g,0,none⟩) l.length cap]).run Tryz.prog w.drew=.ok (.pointer (some ⟨g,0,none⟩)) w.drew:=
  Lib.run_unsafeSliceData_row _ _ _ _ _ _ (by omega)
 have Np:(Builtin.unsafeString_ #[180,3] 9 #[.pointer (some ⟨g,0,none⟩),.int .i64 l.length]).run Tryz.prog w.drew=.ok (.string ⟨l.toArray⟩) (w.drew.freeze ⟨g,0,none⟩ l.length):=
  Lib.run_unsafeString_row w.drew 180 3 9 5 Tryz.underlying180 agS g cur.size (by have hL:w.drew.heap[g]?=some (.cells cur 5 (0,0)):=ak;simp[World.shape?,hL]) l aO (by omega) (by unfold maxLen at jx;omega) λj x U=>n6 j x U
 have mixed:=mixed
 go_enter Tryz.func87,Tryz.ntmps87
 go_wp2
 go_region_o
 all_goals (go_wp2;go_ret;exact⟨rfl,ahQ w g _⟩)
set_option maxHeartbeats 2000000 in
set_option maxRecDepth 100000 in
theorem aly(b:Nat)(p:Value)(w:World)(ag:w.heap[b]?=some (.cells #[p,.slice none 0 0] 156 (0,0))):
  Calls Tryz.prog 87 #[.pointer (some ⟨b,0,none⟩)] w λe w'=>e=.returned (.string ⟨#[]⟩)/\w.grownBy w' none:=by
 have Np:=PN;have cF:w.drew.cell? ⟨b,1,none⟩=some (.slice none 0 0):=by
  have:w.drew.heap[b]?=some (.cells #[p,.slice none 0 0] 156 (0,0)):=ag;rw[Lib.cell_of_heap this];rfl
 have No:(Builtin.unsafeSliceData_ #[148] 180 #[.slice none 0 0]).run Tryz.prog w.drew=.ok (.pointer none) w.drew:=rfl;have mixed:=mixed
 go_enter Tryz.func87,Tryz.ntmps87
 go_wp2
 go_region_o
 all_goals (go_wp2;go_ret;exact⟨rfl,rfl,rfl,rfl,aA _,λ_ _ _=>rfl⟩)
set_option maxHeartbeats 2000000 in
set_option maxRecDepth 100000 in
theorem alz(b g:Nat)(p:Value)(cur:Array Value)(w:World)(ag:w.heap[b]?=some (.cells #[p,.slice (some ⟨g,0,none⟩) 0 0] 156 (0,0)))(ak:w.heap[g]?=some (.cells cur 5 (0,0))):
  Calls Tryz.prog 87 #[.pointer (some ⟨b,0,none⟩)] w λe w'=>e=.returned (.string ⟨#[]⟩)/\w.grownBy w' none:=by
 have Np:=PN;have bU:b<w.heap.size:=by
  rcases Nat.lt_or_ge b w.heap.size with da|da
  .exact da
  .simp [Array.getElem?_eq_none da]at ag
 have cF:w.drew.cell? ⟨b,1,none⟩=some (.slice (some ⟨g,0,none⟩) 0 0):=by
  have:w.drew.heap[b]?=some (.cells #[p,.slice (some ⟨g,0,none⟩) 0 0] 156 (0,0)):=ag;rw[Lib.cell_of_heap this];rfl
 have No:(Builtin.unsafeSliceData_ #[148] 180 #[.slice (some ⟨g,0,none⟩) 0 0]).run Tryz.prog w.drew=.ok (.pointer (some ⟨w.drew.heap.size,0,none⟩)) (w.drew.alloc (.view ⟨g,0,none⟩ 5)):=
  Lib.run_unsafeSliceData_zero w.drew _ _ 5 Tryz.underlying180 ⟨g,0,none⟩ 0 (5,cur.size) (by have hL:w.drew.heap[g]?=some (.cells cur 5 (0,0)):=ak;simp[World.shape?,hL])
 have ck:(w.drew.alloc (.view ⟨g,0,none⟩ 5)).cell? ⟨b,1,none⟩=some (.slice (some ⟨g,0,none⟩) 0 0):=by
  have:(w.drew.alloc (.view ⟨g,0,none⟩ 5)).heap[b]?=_:=(Lib.alloc_old w.drew _ b bU).trans ag;rw[Lib.cell_of_heap this];rfl
 have dG:(w.alloc (.view ⟨g,0,none⟩ 5)).drew.cell? ⟨b,1,none⟩=some (.slice (some ⟨g,0,none⟩) 0 0):=ck;have wU:w.cell? ⟨b,1,none⟩=some (.slice (some ⟨g,0,none⟩) 0 0):=cF;have mixed:=mixed
 go_enter Tryz.func87,Tryz.ntmps87
 go_wp2
 go_region_o
 all_goals (go_wp2;go_ret;exact⟨rfl,rfl,rfl,rfl,by simp,λk aj _=>Lib.alloc_old w _ k aj⟩)
set_option maxHeartbeats 2000000 in
set_option maxRecDepth 100000 in
theorem alA(b g cap:Nat)(p:Value)(w:World)(A1:cap≠0)(ag:w.heap[b]?=some (.cells #[p,.slice (some ⟨g,0,none⟩) 0 cap] 156 (0,0))):
  Calls Tryz.prog 87 #[.pointer (some ⟨b,0,none⟩)] w λe w'=>e=.returned (.string ⟨#[]⟩)/\w.grownBy w' none:=by
 have Np:=PN;have cF:w.drew.cell? ⟨b,1,none⟩=some (.slice (some ⟨g,0,none⟩) 0 cap):=by
  have:w.drew.heap[b]?=some (.cells #[p,.slice (some ⟨g,0,none⟩) 0 cap] 156 (0,0)):=ag;rw[Lib.cell_of_heap this];rfl
 have No:(Builtin.unsafeSliceData_ #[148] 180 #[.slice (some ⟨g,0,none⟩) 0 cap]).run Tryz.prog w.drew=.ok (.pointer (some ⟨g,0,none⟩)) w.drew:=
  Lib.run_unsafeSliceData_row _ _ _ _ _ _ A1
 clear A1;have mixed:=mixed
 go_enter Tryz.func87,Tryz.ntmps87
 go_wp2
 go_region_o
 all_goals (go_wp2;go_ret;exact⟨rfl,rfl,rfl,rfl,aA _,λ_ _ _=>rfl⟩)
theorem alR:TI Tryz.prog 86 156 5:=λb w p v n xs s ag af ly cI hlen=>write b w p v n xs s ag af ly cI hlen
theorem Nf{w w':World}{g:Option Nat}(h:w.grownBy w' none):w.grownBy w' g:=⟨h.os,h.tape,h.output,h.size,λk aj _=>h.block k aj (by simp)⟩
theorem alC:SX Tryz.prog 87 156 5:=by
 intro b w p v l ag ly;rcases ly.2 with⟨rfl,hl⟩|⟨g,cap,cur,rfl,_,ak,Bc,jx,ku,Oo⟩
 .obtain rfl:=List.eq_nil_of_length_eq_zero hl;exact(aly b p w ag).mono λe w' h=>⟨h.1,Nf h.2⟩
 .by_cases aO:l=[]
  .subst aO;by_cases ad:cap=0
   .subst ad;exact(alz b g p cur w ag ak).mono λe w' h=>⟨h.1,Nf h.2⟩
   .exact (alA b g cap p w ad ag).mono λe w' h=>⟨h.1,Nf h.2⟩
  .exact alB b g cap p cur w l ag ak Bc jx (λj x U=>ly.cells (g:=g) rfl j _ (by simp[U])) (by omega) aO
end Go.aS.Ds

namespace Go.aS
open Go.Proofs
set_option maxRecDepth 100000
theorem mixed:Tryz.prog.follows .mixedOrders=true:=by kernel_rfl
theorem ad6:Lw env:=by
 intro f p az r outs af h;have af:Mo f=some p:=af;unfold Mo at af
 split at af
 .cases af;cases h
 .cases af;cases h
 .cases af;obtain⟨z,aG⟩:=UF.ok;exact Kj (E:=env) (by decide) (enters_of Tryz.func44 (by kernel_rfl) rfl) aG h
 .cases af;obtain⟨z,aG⟩:=UG.ok;exact Kj (E:=env) (by decide) (enters_of Tryz.func53 (by kernel_rfl) rfl) aG h
 .cases af;exact Z1 (E:=env) (g:=0) (by decide) (enters_of Tryz.func66 (by kernel_rfl) rfl) MA.zero MA.some_ (λM h=>h) h
 .cases af;exact Z0 (E:=env) rfl (by decide) (enters_of Tryz.func86 (by kernel_rfl) rfl) Ds.alR h
 .cases af;exact Zm (E:=env) rfl (enters_of Tryz.func87 (by kernel_rfl) rfl) Ds.alC h
 .cases af;obtain⟨z,aG⟩:=UH.ok;exact Kj (E:=env) (by decide) (enters_of Tryz.func97 (by kernel_rfl) rfl) aG h
 .cases af
theorem adl:Lu env:=by
 intro call ad f q az r outs au h;have au:Mf f=some q:=au;unfold Mf at au
 split at au
 .cases au;exact pq.M_ ad h
 .cases au;exact g6.M_ ad h
 .cases au
theorem adh:∀f,Tryz.prog.funcs.size<=f->Mr f=[]:=by
 have ae:Tryz.prog.funcs.size=163:=by kernel_rfl
 have hu:Lr.under 163=true:=by kernel_rfl
 intro f hf;rw[ae]at hf;unfold Mr;cases h:Lr.find f with
 |none=>rfl
 |some v=>have:=bY.M7 hu h;omega
theorem ZS:Ve env=true:=by kernel_rfl
theorem ahf:Du env:=ab6 mixed ad6 adl ZS adh
end Go.aS
