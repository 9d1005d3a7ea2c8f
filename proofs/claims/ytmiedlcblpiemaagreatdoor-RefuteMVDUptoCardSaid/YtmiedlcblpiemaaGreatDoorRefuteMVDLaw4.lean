/- What the functions answer. No conditions. -/
import Derived.Test.YtmiedlcblpiemaaGreatDoorBase2
import Derived.Test.YtmiedlcblpiemaaGreatDoorOwn30
import Derived.Test.YtmiedlcblpiemaaGreatDoorOwn21
set_option linter.all false
open List renaming mem_singleton->zA,not_mem_nil->zB,mem_cons->zC,getElem?_eq_some_iff->zD,mem_map->zE,mem_append->zF,getElem?_eq_getElem->zG,getElem?_map->zI,range->zK,map_append->zL,mem_range->zM
open Nat renaming le_of_ble_eq_true->zH
namespace Go.Own.Hol
open Go.Proofs D
set_option maxRecDepth 100000
set_option maxHeartbeats 4000000
abbrev bo(b:Bool):D:=.lit (.bool b)
def reg1{call:Nat->List D->Option (D×List D)}{f g:Nat}{V:List Nat}{ds:List D}{x:D×List D}{ops:Array Oper}{d:Bool}{F F':Fr}(hc:call g ds=some x)(h1:regC env f V (fun _ _=>some x) ops d F=some F')(h2:regQ env f V (fun _ _=>some x) ops d F=[(g,ds)]):regC env f V call ops d F=some F':=
 Bge (fun q hq y hy=>by
  rw[h2,zA]at hq;subst hq;simp only[zJ]at hy;subst hy
  exact hc) h1
def opAt(ops:Array Oper)(i:Nat):Oper:=match ops[i]? with
 |some o=>o
 |none=>{ dst:=none,op:=.move (.const (.int .i64 0)),type:=0,guard:=none,pos:=default,after:=#[] }
def opTy(o:Oper):Nat:=match o.op with
 | .binOp _ _ _ _ ty=>ty
 |_=>0
abbrev rB(l q:Int):D:=.box [.lit (.int .u32 l),.lit (.int .u32 q)]
abbrev mp(r:Nat):D:=.lit (.map (some r))
def V0:List Nat:=[3,8,9,10,52,53,54]
abbrev fA(l q n:Int)(rg:Nat)(rows:List (List D))(i:Nat):Fr:=[(3,rB l q),(8,.lit (.int .u32 (Afq l q))),(9,.lit (.int .u32 (Ahi n l q))),(10,mp rg),(52,.sl rows),(53,.lit (.int .i64 rows.length)),(54,.lit (.int .i64 i))]
abbrev fRow(id:Int)(vs:List (List D)):D:=.box [.lit (.int .i64 id),.sl vs]
def V1:List Nat:=V0++[12,13,14]
abbrev bx(x y z:Option Nat):D:=.box [.lit (.map x),.lit (.map y),.lit (.map z)]
abbrev fB(l q n:Int)(rg:Nat)(rows:List (List D))(i:Nat)(id:Int)(vs:List (List D))(s:ByteArray)(x y z:Option Nat):Fr:=fA l q n rg rows i++[(12,fRow id vs),(13,.lit (.string s)),(14,bx x y z)]
def reg_list{call:Nat->List D->Option (D×List D)}{f:Nat}{V:List Nat}{F F':Fr}{ops:Array Oper}(l:List Nat)(hr:zK ops.size=l)(h:(opsC env f V call ops l F).map (norm V)=some F'):regC env f V call ops false F=some F':=by
 simp only[regC,Bool.false_eq_true,if_false,hr];exact h
def st_op{call:Nat->List D->Option (D×List D)}{f:Nat}{V:List Nat}{F F1 F':Fr}{ops:Array Oper}{i:Nat}{l:List Nat}{o:Oper}(hi:ops[i]?=some o)(hw:wantedD ops F o=some true)(h:opC env f V call F o=some F1)(k:(opsC env f V call ops l F1).map (norm V)=some F'):(opsC env f V call ops (i::l) F).map (norm V)=some F':=by
 rw[Axl hi hw h];exact k
def reg2{call:Nat->List D->Option (D×List D)}{f g:Nat}{V:List Nat}{ds1 ds2:List D}{ops:Array Oper}{d:Bool}{F F':Fr}(h:List D->ByteArray)(e1:call g ds1=some (.lit (.string (h ds1)),[]))(e2:call g ds2=some (.lit (.string (h ds2)),[]))(h1:regC env f V (fun _ ds=>some (.lit (.string (h ds)),[])) ops d F=some F')(h2:regQ env f V (fun _ ds=>some (.lit (.string (h ds)),[])) ops d F=[(g,ds1),(g,ds2)]):regC env f V call ops d F=some F':=
 Bge (fun q hq y hy=>by
  rw[h2]at hq;simp only[zJ]at hy;subst hy;simp only[zC,zB,or_false]at hq;rcases hq with rfl|rfl
  .exact e1
  .exact e2) h1
def infos:Tryz.prog.underlying 129=some (.map 9 132)/\Tryz.prog.underlying 9=some .string/\Tryz.prog.underlying 131=some (.map 9 4)/\Tryz.prog.underlying 132=some (.array 3 131):=by
 refine⟨by kernel_rfl,by kernel_rfl,by kernel_rfl,by kernel_rfl⟩
def V2:List Nat:=V1++[15]
abbrev fC(l q n:Int)(rg:Nat)(rows:List (List D))(i:Nat)(id:Int)(vs:List (List D))(s:ByteArray)(x y z:Option Nat)(b:Bool):Fr:=fB l q n rg rows i id vs s x y z++[(15,bo b)]
def zeroA:∃i,Tryz.prog.info? 132=some i/\i.zero=some (.agg ([Value.map none,.map none,.map none]:List Value).toArray):=by
 obtain⟨i,hi⟩:=Ack infos.2.2.2;refine⟨i,hi,?_⟩;have h:(Tryz.prog.info? 132).bind (·.zero)=some (.agg ([Value.map none,.map none,.map none]:List Value).toArray):=by kernel_rfl
 rw[hi]at h;exact h
def wr(i:Nat)(h:i<1000000000):IntKind.i64.wrap ((i:Int)+1)=((i+1:Nat):Int):=by
 rw[IntKind.wrap_i64];omega
def valF:Nat:=42
def keyF:Nat:=90
noncomputable def ops18:Array Oper:=Bod Tryz.f45 18
def u18:Upd3 Tryz.prog ops18 132 131 9 9 4 14 16 17 83 where
 size:=by kernel_rfl
 nosel:=by kernel_rfl
 ut:=by kernel_rfl
 uk:=by kernel_rfl
 one:=⟨by kernel_rfl,by kernel_rfl⟩
 arr:=by kernel_rfl
 inf:=Ack infos.2.2.1
 o0:=⟨opAt ops18 0,by kernel_rfl,by kernel_rfl,by kernel_rfl,⟨.i64,by kernel_rfl⟩⟩
 o1:=⟨opAt ops18 1,by kernel_rfl,by kernel_rfl,by kernel_rfl,by kernel_rfl⟩
 o2:=⟨opAt ops18 2,by kernel_rfl,by kernel_rfl,by kernel_rfl,by kernel_rfl⟩
 o3:=⟨opAt ops18 3,by kernel_rfl,by kernel_rfl,by kernel_rfl,⟨.i64,by kernel_rfl⟩⟩
 o4:=⟨opAt ops18 4,by kernel_rfl,by kernel_rfl,by kernel_rfl,by kernel_rfl⟩
 o5:=⟨opAt ops18 5,by kernel_rfl,by kernel_rfl,by kernel_rfl,by kernel_rfl⟩
 o6:=⟨opAt ops18 6,by kernel_rfl,by kernel_rfl,by kernel_rfl,⟨.i64,by kernel_rfl⟩⟩
 o7:=⟨opAt ops18 7,by kernel_rfl,by kernel_rfl,by kernel_rfl,by kernel_rfl⟩
 o8:=⟨opAt ops18 8,by kernel_rfl,by kernel_rfl,by kernel_rfl,by kernel_rfl⟩
 o9:=⟨opAt ops18 9,by kernel_rfl,by kernel_rfl,by kernel_rfl,by kernel_rfl⟩
 o10:=⟨opAt ops18 10,by kernel_rfl,by kernel_rfl,by kernel_rfl,⟨opTy (opAt ops18 10),by kernel_rfl⟩⟩
 o11:=⟨opAt ops18 11,by kernel_rfl,by kernel_rfl,by kernel_rfl,by kernel_rfl⟩
 o12:=⟨opAt ops18 12,by kernel_rfl,by kernel_rfl,by kernel_rfl,by kernel_rfl⟩
 o13:=⟨opAt ops18 13,by kernel_rfl,by kernel_rfl,by kernel_rfl,by kernel_rfl⟩
 r11:=by kernel_rfl
 r12:=by kernel_rfl
 r13:=by kernel_rfl
 r14:=by kernel_rfl
 f0:=by kernel_rfl
 f1:=by kernel_rfl
 f2:=by kernel_rfl
 f3:=by kernel_rfl
 f4:=by kernel_rfl
 f5:=by kernel_rfl
 f6:=by kernel_rfl
 f7:=by kernel_rfl
 f8:=by kernel_rfl
 f9:=by kernel_rfl
 f10:=by kernel_rfl
def fnok{call:Nat->List D->Option (D×List D)}(hcall:Acr env call){ds:List D}{r:D}{outs:List D}(h:runAsk call (Ae6 42 90 ds)=some (r,outs)):FnOK env 45 ds r outs:=by
 obtain⟨nm,ats,rows,l,q,e,rfl,hv,rfl,hcase⟩:=Azu h;clear h;have hB:Aka Tryz.f45=true:=by kernel_rfl
 have hm:env.P.follows .mixedOrders=true:=by kernel_rfl
 have hnt:Tryz.f45.ntmps=112:=by kernel_rfl
 obtain⟨q1,q2,q3⟩:=Azq (fd:=Tryz.f45) (c:=(Tryz.f45.body).getD .skip) (by kernel_rfl) hB;have hlen:(Nat.ble 2 Tryz.f45.ntmps&&Nat.blt Tryz.f45.ntmps 1000000)=true:=by kernel_rfl
 rw[Bool.and_eq_true]at hlen;refine Apq (fd:=Tryz.f45) (c:=(Tryz.f45.body).getD .skip) (V:=[0,1]) (by kernel_rfl) q1 (by kernel_rfl) q2 q3 (by decide) ⟨zH hlen.1,zH hlen.2⟩ ?_;have hb0:norm [0,1] (Aea env 45 0 [.agg [.lit (.string nm),.sl ats,.sl rows],.agg [.lit (.int .u32 l),.lit (.int .u32 q)]])=[(0,.agg [.lit (.string nm),.sl ats,.sl rows]),(1,.agg [.lit (.int .u32 l),.lit (.int .u32 q)])]:=by kernel_rfl
 rw[hb0,hnt];have hlv:∀(F:Fr)(b:Bool)(k:Int),get F 4=bo b->get F 5=.lit (.int .i64 k)->r=resH b k->Amu env 45 Tryz.f45 [D.agg [.lit (.string nm),.sl ats,.sl rows],.agg [.lit (.int .u32 l),.lit (.int .u32 q)]].length r [] .ret F:=by
  intro F b k h4 h5 hr;subst hr;show Aej env 45 Tryz.f45 2 F=_;have hr:Tryz.f45.results.toList=[ResultVar.tmp 4,ResultVar.tmp 5]:=by kernel_rfl
  have hl:Aci env 45 0 2=[]:=by kernel_rfl
  simp only[Aej,hr,Aep,resC,takeOp,h4,h5,takeSlot,hl,List.map_nil,List.all_nil,if_true,Aod];rfl
 generalize Amu env 45 Tryz.f45 [D.agg [.lit (.string nm),.sl ats,.sl rows],.agg [.lit (.int .u32 l),.lit (.int .u32 q)]].length r []=Q0 at hlv⊢;unfold Tryz.f45;simp only[Option.getD_some];refine ToM.seq (ToM.region hcall hm 45 [2,3,4,5] (by decide) [(2,.box [.lit (.string nm),.sl ats,.sl rows]),(3,.box [.lit (.int .u32 l),.lit (.int .u32 q)]),(4,bo false),(5,.lit (.int .i64 0))] (by kernel_rfl) ?_);refine ToM.seq (ToM.seq (ToM.region hcall hm 45 [2,3,4,5,6] (by decide) [(2,.box [.lit (.string nm),.sl ats,.sl rows]),(3,.box [.lit (.int .u32 l),.lit (.int .u32 q)]),(4,bo false),(5,.lit (.int .i64 0)),(6,.lit (.int .i64 e))] (reg1 hv (by kernel_rfl) (by kernel_rfl)) ?_));refine ToM.seq (ToM.region hcall hm 45 [2,3,4,5,6,23] (by decide) [(2,.box [.lit (.string nm),.sl ats,.sl rows]),(3,.box [.lit (.int .u32 l),.lit (.int .u32 q)]),(4,bo false),(5,.lit (.int .i64 0)),(6,.lit (.int .i64 e)),(23,bo (e != 0))] (by kernel_rfl) ?_);refine ToM.cond (t:=e != 0) (by kernel_rfl) (fun he=>?_) (fun he=>ToM.skip ?_)
 .have he:e≠0:=by simpa using he
  refine ToM.seq (ToM.region hcall hm 45 [4,5] (by decide) [(4,bo false),(5,.lit (.int .i64 e))] (by kernel_rfl) (ToM.ret (hlv _ false e rfl rfl ?_)));rcases hcase with⟨_,h⟩|⟨h,_⟩|⟨h,_⟩
  .exact h
  .exact absurd h he
  .exact absurd h he
 have he:e=0:=by simpa using he
 subst he;refine ToM.seq (ToM.region hcall hm 45 [2,3,4,5,7] (by decide) [(2,.box [.lit (.string nm),.sl ats,.sl rows]),(3,.box [.lit (.int .u32 l),.lit (.int .u32 q)]),(4,bo false),(5,.lit (.int .i64 0)),(7,.lit (.int .i64 ats.length))] (by kernel_rfl) ?_);refine ToM.seq (ToM.seq (ToM.region hcall hm 45 [2,3,4,5,7,35] (by decide) [(2,.box [.lit (.string nm),.sl ats,.sl rows]),(3,.box [.lit (.int .u32 l),.lit (.int .u32 q)]),(4,bo false),(5,.lit (.int .i64 0)),(7,.lit (.int .i64 ats.length)),(35,bo (shrw .u32 (bOr .u32 l q) (ats.length:Int)!=0))] (by kernel_rfl) ?_));refine ToM.cond (t:=shrw .u32 (bOr .u32 l q) (ats.length:Int)!=0) (by kernel_rfl) (fun hs=>?_) (fun hs=>ToM.skip ?_)
 .have hs:shrw .u32 (bOr .u32 l q) (ats.length:Int)≠0:=by simpa using hs
  refine ToM.seq (ToM.region hcall hm 45 [4,5] (by decide) [(4,bo false),(5,.lit (.int .i64 1))] (by kernel_rfl) (ToM.ret (hlv _ false 1 rfl rfl ?_)));rcases hcase with⟨h,_⟩|⟨_,_,h⟩|⟨_,h,_⟩
  .exact absurd rfl h
  .exact h
  .exact absurd h hs
 have hs:shrw .u32 (bOr .u32 l q) (ats.length:Int)=0:=by simpa using hs
 obtain⟨hrl,L,hL,hr⟩:rows.length<=1000000/\∃L,At8 call 90 l (Afq l q) (Ahi ats.length l q) rows L/\r=resH (okH L) 0:=by
  rcases hcase with⟨h,_⟩|⟨_,h,_⟩|⟨_,_,h⟩
  .exact absurd rfl h
  .exact absurd hs h
  .exact h
 refine ToM.seq (ToM.region hcall hm 45 [2,3,4,5,8,9] (by decide) [(2,.box [.lit (.string nm),.sl ats,.sl rows]),(3,.box [.lit (.int .u32 l),.lit (.int .u32 q)]),(4,bo false),(5,.lit (.int .i64 0)),(8,.lit (.int .u32 (Afq l q))),(9,.lit (.int .u32 (Ahi ats.length l q)))] (by kernel_rfl) ?_);refine ToM.ofX ?_;refine ToMX.seq (WX.region [0,1] rfl (WX.value rfl rfl fun R M B w0 a w hfit hp=>?_));refine⟨_,_,_,_,Ai4 rfl,hp.new (.map #[] 0) (v:=.map (some w.heap.size)) rfl (some 50) (fun d hd=>by cases hd;decide),?_⟩;generalize w.heap.size=rg;clear hp hfit;refine WX.run hcall 45 [] [1] [] rfl (F1:=[(2,.box [.lit (.string nm),.sl ats,.sl rows]),(3,rB l q),(4,bo false),(5,.lit (.int .i64 0)),(8,.lit (.int .u32 (Afq l q))),(9,.lit (.int .u32 (Ahi ats.length l q))),(50,mp rg),(10,mp rg)]) (by kernel_rfl) (WX.nil ?_);have hn0:(rows.length:Int)<1000001:=by omega
 refine ToMX.seq (ToMX.mono (Q:=fun e F X=>e=.normal/\Own.norm V0 F=fA l q ats.length rg rows rows.length/\∃gs,StH rg L gs X/\(∀g∈gs,g.1∈L.map (·.1))/\L.length=rows.length) ?_ ?_)
 ·
  refine ToMX.seq (ToMX.region hcall hm 45 V0 (by decide) (fA l q ats.length rg rows 0) (by kernel_rfl) ?_);refine ToMX.block (ToMX.loopInd (fun k F X=>∃i L1 L2 gs,i<=rows.length/\k=rows.length-i+1/\Own.norm V0 F=fA l q ats.length rg rows i/\L1.length=i/\At8 call 90 l (Afq l q) (Ahi ats.length l q) (rows.drop i) L2/\L1++L2=L/\StH rg L1 gs X/\∀g∈gs,g.1∈L1.map (·.1)) ?_ ?_ (rows.length+1) ⟨0,[],L,[],Nat.zero_le _,rfl,by kernel_rfl,rfl,hL,rfl,StH.init rg,by simp⟩)
  .rintro F X ⟨i,_,_,_,_,h,_⟩;omega
  rintro k F X ⟨i,L1,L2,gs,hi,hki,hF,hl1,hK,hLL,hst,hgk⟩;refine ToMX.normed (by decide) _ hF ?_;refine ToMX.seq (ToMX.region hcall hm 45 (V0++[55]) (by decide) (fA l q ats.length rg rows i++[(55,bo (decide ((i:Int)<(rows.length:Int))))]) (by kernel_rfl) ?_);refine ToMX.seq (ToMX.cond (t:=decide ((i:Int)<(rows.length:Int))) (by kernel_rfl) (fun ha=>ToMX.skip ?_) (fun ha=>ToMX.exit ?_))
  case refine_2=>
   rw[decide_eq_false_iff_not]at ha;have hir:i=rows.length:=by omega
   rw[hir,List.drop_length]at hK;have hK:L2=[]:=hK;subst hK;rw[List.append_nil]at hLL;subst hLL;refine⟨rfl,?_,gs,hst,hgk,by omega⟩;rw[<-hir];kernel_rfl
  rw[decide_eq_true_eq]at ha;have hir:i<rows.length:=by omega
  have hdr:rows.drop i=rows[i]::rows.drop (i+1):=List.drop_eq_getElem_cons hir;rw[hdr]at hK;obtain⟨s1,s2,s3,L3,id,vs,hrow,rfl,k1,k2,k3,hcat,hK3⟩:=hK;rw[hrow]at k1 k2 k3;have hrow:rows[i]?=some [.lit (.int .i64 id),.sl vs]:=by rw[zG hir,hrow]
  refine ToMX.seq (ToMX.mono (Q:=fun e F X=>e=.normal/\Own.norm V0 F=fA l q ats.length rg rows i/\∃gs',StH rg (L1++[(s1,s2,s3)]) gs' X/\∀g∈gs',g.1∈(L1++[(s1,s2,s3)]).map (·.1)) ?_ ?_)
  case refine_2=>
   rintro _ F1 X1 ⟨rfl,hF1,gs',hst',hgk'⟩;refine ToMX.normed (by decide) _ hF1 ?_;refine ToMX.region hcall hm 45 V0 (by decide) (fA l q ats.length rg rows (i+1)) ?_ ⟨i+1,L1++[(s1,s2,s3)],L3,gs',by omega,by omega,by kernel_rfl,by simp[hl1],hK3,by rw[List.append_assoc];exact hLL,hst',hgk'⟩;have hw:=wr i (by omega);have:fA l q ats.length rg rows (i+1)=[(3,rB l q),(8,.lit (.int .u32 (Afq l q))),(9,.lit (.int .u32 (Ahi ats.length l q))),(10,mp rg),(52,.sl rows),(53,.lit (.int .i64 rows.length)),(54,.lit (.int .i64 (IntKind.i64.wrap ((i:Int)+1))))]:=by rw[hw]
   refine Eq.trans ?_ (congrArg some this.symm)
   kernel_rfl
  refine ToMX.block ?_;refine ToMX.seq (ToMX.region hcall hm 45 (V0++[12]) (by decide) (fA l q ats.length rg rows i++[(12,fRow id vs)]) ?_ ?_)
  .refine reg_list [0,1,2,3] rfl (st_op rfl rfl (Bhz (q:=.i64) (es:=rows) (i:=i) (k:=2) rfl (by kernel_rfl) (by kernel_rfl) (e:=81) (by kernel_rfl) (by kernel_rfl) hrow rfl) ?_)
   kernel_rfl
  refine ToMX.seq (ToMX.region hcall hm 45 (V0++[12,13]) (by decide) (fA l q ats.length rg rows i++[(12,fRow id vs),(13,.lit (.string s1))]) (reg1 k1 (by kernel_rfl) (by kernel_rfl)) ?_);have hgrp:(∃g∈gs,g.1=s1/\Agr s1 (gKV gs)=some (gv g))∨(s1 ∉ gs.map (·.1)/\Agr s1 (gKV gs)=none):=by
   by_cases h:s1∈gs.map (·.1)
   .exact .inl (Atz h)
   .exact .inr ⟨h,Aty h⟩
  refine ToMX.seq (ToMX.mono (Q:=fun e F Y=>e=.normal/\Y=X/\((∃g∈gs,g.1=s1/\norm V2 F=fC l q ats.length rg rows i id vs s1 (some g.2.1) (some g.2.2.1) (some g.2.2.2) true)∨(s1 ∉ gs.map (·.1)/\norm V2 F=fC l q ats.length rg rows i id vs s1 none none none false))) ?_ ?_)
  .refine WX.region [0,1,2,3,4,5,6,7,8] rfl (WX.runV hcall 45 (V0++[12,13,63,64]) [0,1] [2,3,4,5,6,7,8] rfl (by decide) (F1:=fA l q ats.length rg rows i++[(12,fRow id vs),(13,.lit (.string s1)),(63,mp rg),(64,.lit (.string s1))]) (by kernel_rfl) (WX.value rfl rfl fun R M B w0 a w hfit hp=>?_));have ex:a.eval (.tmp 63)=.map (some rg):=hp.lit (E:=env) (x:=.tmp 63) (fun t ht=>by cases ht;decide) (by kernel_rfl);have ek:a.eval (.tmp 64)=.string s1:=hp.lit (E:=env) (x:=.tmp 64) (fun t ht=>by cases ht;decide) (by kernel_rfl);have hh:w.heap[rg]?=some (gMap (gKV gs)):=hp.heap (b:=(rg,gMap (gKV gs))) (by rw[hst.hX];simp);obtain⟨inf,hinf,hz⟩:=zeroA;have hl:=Bau (P:=Tryz.prog) infos.1 infos.2.1 hh s1 hinf hz;rcases hgrp with⟨g,hg,hgk1,hlk⟩|⟨hno,hlk⟩
   .rw [hlk]at hl;refine⟨_,_,_,_,Arn rfl (by rw[ex,ek];exact hl),hp.tup (l1:=[]) (l:=[.map (some g.2.1),.map (some g.2.2.1),.map (some g.2.2.2)]) (l2:=[.bool true]) (by simp) Avd (by intro v hv;simp only[zA]at hv;subst hv;rfl) (some 65) (fun d hd=>by cases hd;decide),?_⟩;exact WX.runV hcall 45 V2 [3,4,5,6,7,8] [] rfl (by decide) (F1:=fC l q ats.length rg rows i id vs s1 (some g.2.1) (some g.2.2.1) (some g.2.2.2) true) (by kernel_rfl) (WX.nil ⟨rfl,rfl,.inl ⟨g,hg,hgk1,by kernel_rfl⟩⟩)
   .rw [hlk]at hl;refine⟨_,_,_,_,Arn rfl (by rw[ex,ek];exact hl),hp.tup (l1:=[]) (l:=[.map none,.map none,.map none]) (l2:=[.bool false]) (by simp) (by intro v hv;simp only[zC,zB,or_false]at hv;rcases hv with rfl|rfl|rfl<;>rfl) (by intro v hv;simp only[zA]at hv;subst hv;rfl) (some 65) (fun d hd=>by cases hd;decide),?_⟩;exact WX.runV hcall 45 V2 [3,4,5,6,7,8] [] rfl (by decide) (F1:=fC l q ats.length rg rows i id vs s1 none none none false) (by kernel_rfl) (WX.nil ⟨rfl,rfl,.inr ⟨hno,by kernel_rfl⟩⟩)
  rintro _ F13 X' ⟨rfl,hX',hF13⟩;rw[hX'];clear hgrp hX' X';refine ToMX.seq (ToMX.mono (Q:=fun e F X=>e=.normal/\∃gs' g,StH rg L1 gs' X/\g∈gs'/\g.1=s1/\norm V1 F=fB l q ats.length rg rows i id vs s1 (some g.2.1) (some g.2.2.1) (some g.2.2.2)/\∀g'∈gs',g'.1∈L1.map (·.1)∨g'.1=s1) ?_ ?_)
  .rcases hF13 with⟨g,hg,hgk1,hF13⟩|⟨hno,hF13⟩
   .refine ToMX.normed (by decide) _ hF13 ?_;refine ToMX.seq (ToMX.region hcall hm 45 (V1++[69]) (by decide) (fB l q ats.length rg rows i id vs s1 (some g.2.1) (some g.2.2.1) (some g.2.2.2)++[(69,bo false)]) (by kernel_rfl) ?_);refine ToMX.cond (t:=false) (by kernel_rfl) (fun h=>by cases h) (fun _=>ToMX.skip ⟨rfl,gs,g,hst,hg,hgk1,by kernel_rfl,fun g' hg'=>.inl (hgk g' hg')⟩)
   .refine ToMX.normed (by decide) _ hF13 ?_;refine ToMX.seq (ToMX.region hcall hm 45 (V1++[69]) (by decide) (fB l q ats.length rg rows i id vs s1 none none none++[(69,bo true)]) (by kernel_rfl) ?_);refine ToMX.cond (t:=true) (by kernel_rfl) (fun _=>?_) (fun h=>by cases h);refine ToMX.seq (WX.region [0,1,2,3,4] rfl (WX.value rfl rfl fun R M B w0 a w hfit hp=>⟨_,_,_,_,Ai4 rfl,hp.new (.map #[] 0) (v:=.map (some w.heap.size)) rfl (some 70) (fun d hd=>by cases hd;decide),?_⟩));have f1:=hp.fresh;generalize w.heap.size=r1 at f1;clear hp hfit R M B w0 a w;refine WX.value rfl rfl fun R M B w0 a w hfit hp=>⟨_,_,_,_,Ai4 rfl,hp.new (.map #[] 0) (v:=.map (some w.heap.size)) rfl (some 71) (fun d hd=>by cases hd;decide),?_⟩
    have f2:=hp.fresh;generalize w.heap.size=r2 at f2;clear hp hfit R M B w0 a w;refine WX.value rfl rfl fun R M B w0 a w hfit hp=>⟨_,_,_,_,Ai4 rfl,hp.new (.map #[] 0) (v:=.map (some w.heap.size)) rfl (some 72) (fun d hd=>by cases hd;decide),?_⟩
    have f3:=hp.fresh;generalize w.heap.size=r3 at f3;clear hp hfit R M B w0 a w;refine WX.runV hcall 45 V1 [3,4] [] rfl (by decide) (F1:=fB l q ats.length rg rows i id vs s1 (some r1) (some r2) (some r3)) (by kernel_rfl) (WX.nil ?_);have g12:r1<r2:=f2 (r1,.map #[] 0) (by simp);have g23:r2<r3:=f3 (r2,.map #[] 0) (by simp);have hfr:∀r∈[r1,r2,r3],r ∉ X.map Prod.fst:=fun r hr hX=>by
     obtain⟨b,hb,rfl⟩:=zE.1 hX;have:=f1 b hb;simp only[zC,zB,or_false]at hr;omega
    refine WX.region [0,1,2,3] rfl (WX.runV hcall 45 (V1++[74,75,76]) [0,1,2] [3] rfl (by decide) (F1:=fB l q ats.length rg rows i id vs s1 (some r1) (some r2) (some r3)++[(74,mp rg),(75,.lit (.string s1)),(76,.agg [mp r1,mp r2,mp r3])]) (by kernel_rfl) (WX.act rfl rfl rfl fun R M B w0 a w hfit hp=>?_));have ex:a.eval (.tmp 74)=.map (some rg):=hp.lit (E:=env) (x:=.tmp 74) (fun t ht=>by cases ht;decide) (by kernel_rfl);have ek:a.eval (.tmp 75)=.string s1:=hp.lit (E:=env) (x:=.tmp 75) (fun t ht=>by cases ht;decide) (by kernel_rfl);have ev:a.eval (.tmp 76)=gv (s1,r1,r2,r3):=hp.agg (E:=env) (x:=.tmp 76) (l:=[.map (some r1),.map (some r2),.map (some r3)]) (fun t ht=>by cases ht;decide) (by kernel_rfl);have hh:w.heap[rg]?=some (gMap (gKV gs)):=hp.heap (b:=(rg,gMap (gKV gs))) (by rw[hst.hX];simp);have hup:=Auu (P:=Tryz.prog) infos.1 infos.2.1 hh (Aty hno) (gv (s1,r1,r2,r3));refine⟨_,_,_,Bbn rfl (by rw[ex,ek,ev];exact hup),(hp.setX (r:=rg) (by rw[hst.hX];simp) (gMap (gKV gs++[(s1,gv (s1,r1,r2,r3))]))).sub (hst.push_sub hfr _),WX.nil ⟨rfl,gs++[(s1,r1,r2,r3)],(s1,r1,r2,r3),hst.push hno hfr ?_,by simp,rfl,by kernel_rfl,?_⟩⟩
    .simp only[List.nodup_cons,zC,zB,or_false,not_or,List.nodup_nil,and_true,not_false_eq_true];omega
    .intro g' hg';rcases zF.1 hg' with hg'|hg'
     .exact .inl (hgk g' hg')
     .simp only[zA]at hg';subst hg';exact .inr rfl
  rintro _ F16 X16 ⟨rfl,gs',g,hst',hg,hgk1,hF16,hgk'⟩;clear hF13 hst hgk gs;refine ToMX.normed (by decide) _ hF16 ?_
  let hs:List D->ByteArray:=fun ds=>match call 90 ds with
   |some (.lit (.string s),[])=>s
   |_=>default
  have e2:hs [.agg [.lit (.int .i64 id),.sl vs],.lit (.int .u32 (Afq l q))]=s2:=by show(match call 90 _ with|some (.lit (.string s),[])=>s|_=>default)=s2;rw[k2]
  have e3:hs [.agg [.lit (.int .i64 id),.sl vs],.lit (.int .u32 (Ahi ats.length l q))]=s3:=by show(match call 90 _ with|some (.lit (.string s),[])=>s|_=>default)=s3;rw[k3]
  refine ToMX.seq (ToMX.region hcall hm 45 (V1++[16,17]) (by decide) (fB l q ats.length rg rows i id vs s1 (some g.2.1) (some g.2.2.1) (some g.2.2.2)++[(16,.lit (.string s2)),(17,.lit (.string s3))]) ?_ ?_)
  .rw [<-e2,<-e3];refine reg2 hs (g:=90) (ds1:=[.agg [.lit (.int .i64 id),.sl vs],.lit (.int .u32 (Afq l q))]) (ds2:=[.agg [.lit (.int .i64 id),.sl vs],.lit (.int .u32 (Ahi ats.length l q))]) (by rw[e2];exact k2) (by rw[e3];exact k3) ?_ ?_
   .clear_value hs;kernel_rfl
   .clear_value hs;kernel_rfl
  subst hgk1;obtain⟨u1,⟨u2,u3,u4⟩,⟨u5,u6,u7⟩,u8⟩:=hst'.upd hg (s2:=s2) (s3:=s3);refine ToMX.weak (ToMX.opsEq (ops':=ops18) (by kernel_rfl) (Upd3.run u18 hm (by decide) ?_ (by kernel_rfl) (by kernel_rfl) (by kernel_rfl) u2 u3 u4 u5 u6 u7 hcat ⟨_,u8,rfl,?_,gs',u1,?_⟩))
  .intro x hx;simp only[zL,List.map_cons,List.map_nil,zF,zC,zB,or_false]at hx;omega
  .kernel_rfl
  .intro g' hg';rw[zL];rcases hgk' g' hg' with h|h
   .exact List.mem_append_left _ h
   .rw [h];simp
 ·
  rintro _ F9 X9 ⟨rfl,hF9,gs,hst,hgk,hlen⟩;refine ToMX.normed (by decide) _ hF9 ?_;have hLl:L.length<=1000000:=by omega
  clear hlen hL hF9 F9;refine ToMX.seq (ToMX.mono (Q:=fun e F X=>(e=.normal/\okH L=true)∨(e=.ret/\Q0 .ret F)) ?_ ?_)
  case refine_2=>
   rintro e F X (⟨rfl,hok⟩|⟨rfl,hq⟩)
   .refine ToMX.normed (V:=[]) (by decide) [] rfl ?_;exact ToMX.seq (ToMX.region hcall hm 45 [4,5] (by decide) [(4,bo true),(5,.lit (.int .i64 0))] (by kernel_rfl) (ToMX.ret (hlv _ true 0 rfl rfl (by rw[hr,hok]))))
   .exact hq
  refine ToMX.seq (WX.region [0,1] rfl (WX.runV hcall 45 [95] [0] [1] rfl (by decide) (F1:=[(95,mp rg)]) (by kernel_rfl) (WX.value rfl rfl fun R M B w0 a w hfit hp=>?_)));have hgl:(gKV gs).length=gs.length:=by simp[gKV]
  have ex:a.eval (.tmp 95)=.map (some rg):=hp.lit (E:=env) (x:=.tmp 95) (fun t ht=>by cases ht;decide) (by kernel_rfl);have hh:w.heap[rg]?=some (gMap (gKV gs)):=hp.heap (b:=(rg,gMap (gKV gs))) (by rw[hst.hX];simp);refine⟨_,_,_,_,Bdi rfl (by rw[ex];exact Ay3 infos.1 hh),hp.new (.mapIter (some rg) (gKV gs).length #[] (gKV gs).length) (v:=.pointer (some ⟨w.heap.size,0,none⟩)) rfl (some 96) (fun d hd=>by cases hd;decide),WX.nil ?_⟩;have f1:=hp.fresh;generalize w.heap.size=it at f1;clear hh ex hp hfit R M B w0 a w;rw[hgl];have hit:∀b∈X9,b.1≠it:=fun b hb=>by have:=f1 b hb;omega
  have hrgX:(rg,gMap (gKV gs))∈X9:=by rw[hst.hX];simp
  refine ToMX.block (ToMX.loopInd (fun k F X=>∃seen:List Nat,k=gs.length-seen.length+1/\norm [96] F=[(96,.lit (.pointer (some ⟨it,0,none⟩)))]/\X=(it,.mapIter (some rg) gs.length seen.toArray gs.length)::X9/\seen.Nodup/\(∀j∈seen,j<gs.length)/\(∀j∈seen,∀g,gs[j]?=some g->okK L g.1)) ?_ ?_ (gs.length+1) ⟨[],by simp,by kernel_rfl,rfl,by simp,by simp,by simp⟩)
  .rintro F X ⟨_,h,_⟩;omega
  rintro k F X ⟨seen,hk,hF,rfl,hnd,hlt,hok⟩;refine ToMX.normed (by decide) _ hF ?_;have hsl:seen.length<=gs.length:=by
   have:=hnd.length_le_of_subset (l₂:=zK gs.length) (fun x hx=>zM.2 (hlt x hx));simpa using this
  refine ToMX.seq (ToMX.mono (Q:=fun e F Y=>e=.normal/\((norm [96,98] F=[(96,.lit (.pointer (some ⟨it,0,none⟩))),(98,bo false)]/\∀j,j<gs.length->j∈seen)∨(∃j g,gs[j]?=some g/\j ∉ seen/\norm [96,98] F=[(96,.lit (.pointer (some ⟨it,0,none⟩))),(98,bo true)]/\Y=(it,.mapIter (some rg) gs.length (seen++[j]).toArray gs.length)::X9))) ?_ ?_)
  .refine WX.region [0,1] rfl (WX.value rfl rfl fun R M B w0 a w hfit hp=>?_);have ei:a.eval (.tmp 96)=.pointer (some ⟨it,0,none⟩):=hp.lit (E:=env) (x:=.tmp 96) (fun t ht=>by cases ht;decide) (by kernel_rfl);have h1:=hp.heap (b:=(it,.mapIter (some rg) gs.length seen.toArray gs.length)) (by simp);have h2:=hp.heap (b:=(rg,gMap (gKV gs))) (by simp[hrgX]);have hold:∀x∈(T.entries (gEnt (gKV gs))).toList,x.born<gs.length:=fun x hx=>by
    obtain⟨j,g,hj,rfl⟩:=Au0 hx;have:=(zD.1 hj).1;rw[hgl]at this;exact this
   have h2':w.heap[rg]?=some (.map (T.entries (gEnt (gKV gs))) gs.length):=by rw[h2,<-hgl];rfl
   rcases run_next_at (P:=Tryz.prog) w 0 it rg gs.length gs.length seen.toArray (T.entries (gEnt (gKV gs))) gs.length h1 h2' hold (Nat.le_refl _)with⟨hz,hrun⟩|⟨e,he,w1,hw1,hrun⟩
   .refine ⟨_,_,_,_,Aww rfl (by rw[ei];exact hrun),hp.tup0 (l:=[.bool false]) (by intro v hv;simp only[zA]at hv;subst hv;rfl) (some 97) (fun d hd=>by cases hd;decide),?_⟩;refine WX.runV hcall 45 [96,98] [1] [] rfl (by decide) (F1:=[(96,.lit (.pointer (some ⟨it,0,none⟩))),(98,bo false)]) (by kernel_rfl) (WX.nil ⟨rfl,.inl ⟨by kernel_rfl,fun j hj=>?_⟩⟩);have hgj:(gKV gs)[j]?=some ((gs[j]).1,gv gs[j]):=by simp[gKV,zG hj]
    have:=Bi5 hz _ (Azs hgj);simpa using this
   .obtain ⟨he1,he2⟩:=Bi6 he;obtain⟨j,g0,hj,rfl⟩:=Au0 he1;obtain⟨g,hg,rfl⟩:∃g,gs[j]?=some g/\(g.1,gv g)=g0:=by
     unfold gKV at hj;rw[zI,Option.map_eq_some_iff]at hj;exact hj
    have hp1:Aav 112 R M B w0 [(96,.lit (.pointer (some ⟨it,0,none⟩)))] ((it,.mapIter (some rg) gs.length seen.toArray gs.length)::X9) a w1:=by
     rcases hw1 with rfl|rfl
     .exact hp
     .exact hp.drawn rfl rfl rfl rfl
    have hp2:=(hp1.setX (r:=it) (by simp) (.mapIter (some rg) gs.length (seen.toArray.push j) gs.length)).sub (X':=(it,.mapIter (some rg) gs.length (seen++[j]).toArray gs.length)::X9) (fun b hb=>by
     rcases zC.1 hb with rfl|hb
     .refine zE.2 ⟨(it,.mapIter (some rg) gs.length seen.toArray gs.length),by simp,?_⟩;rw[if_pos rfl];simp
     .exact zE.2 ⟨b,by simp[hb],if_neg (hit b hb)⟩)
    refine⟨_,_,_,_,Aww rfl (by rw[ei];exact hrun),hp2.tup (l1:=[.bool true,.string g.1]) (l:=[.map (some g.2.1),.map (some g.2.2.1),.map (some g.2.2.2)]) (l2:=[]) (by intro v hv;simp only[zC,zB,or_false]at hv;rcases hv with rfl|rfl<;>rfl) Avd (by simp) (some 97) (fun d hd=>by cases hd;decide),?_⟩;exact WX.runV hcall 45 [96,98] [1] [] rfl (by decide) (F1:=[(96,.lit (.pointer (some ⟨it,0,none⟩))),(98,bo true)]) (by kernel_rfl) (WX.nil ⟨rfl,.inr ⟨j,g,hg,by simpa using he2,by kernel_rfl,rfl⟩⟩)
  rintro _ F21 X21 ⟨rfl,⟨hF21,hall⟩|⟨j,g,hg,hj,hF21,rfl⟩⟩
  .refine ToMX.normed (by decide) _ hF21 ?_;refine ToMX.seq (ToMX.cond (t:=false) (by kernel_rfl) (fun h=>by cases h) (fun _=>ToMX.exit (.inl ⟨rfl,?_⟩)));rw[Avy];intro x hx;obtain⟨g,hg,hgx⟩:=zE.1 (hst.kL x hx);obtain⟨j,hj⟩:=List.getElem?_of_mem hg;rw[<-hgx];exact hok j (hall j (zD.1 hj).1) g hj
  refine ToMX.normed (by decide) _ hF21 ?_;refine ToMX.seq (ToMX.cond (t:=true) (by kernel_rfl) (fun _=>ToMX.skip ?_) (fun h=>by cases h));have hjl:j<gs.length:=(zD.1 hg).1;have hgm:g∈gs:=List.mem_of_getElem? hg;refine ToMX.block ?_;refine ToMX.seq (WX.region [0,1,2,3] rfl (WX.value rfl rfl fun R M B w0 a w hfit hp=>?_));have ei:a.eval (.tmp 96)=.pointer (some ⟨it,0,none⟩):=hp.lit (E:=env) (x:=.tmp 96) (fun t ht=>by cases ht;decide) (by kernel_rfl);have h1:=hp.heap (b:=(it,.mapIter (some rg) gs.length (seen++[j]).toArray gs.length)) (by simp);have h2:=hp.heap (b:=(rg,gMap (gKV gs))) (by simp[hrgX]);have h2':w.heap[rg]?=some (.map (T.entries (gEnt (gKV gs))) gs.length):=by rw[h2,<-hgl];rfl
  have hent:=Azs (gs:=gKV gs) (j:=j) (g:=(g.1,gv g)) (by unfold gKV;rw[zI,hg];rfl);have hrun:=run_entry_at (P:=Tryz.prog) w it rg gs.length seen.toArray _ gs.length _ (by rw[h1];simp) h2' hent (by rw[Bfq];exact List.nodup_range);refine⟨_,_,_,_,Bdh rfl (by rw[ei];exact hrun),hp.tup (l1:=[.string g.1]) (l:=[.map (some g.2.1),.map (some g.2.2.1),.map (some g.2.2.2)]) (l2:=[]) (by intro v hv;simp only[zA]at hv;subst hv;rfl) Avd (by simp) (some 99) (fun d hd=>by cases hd;decide),?_⟩;clear hrun hent h2' h2 h1 ei hp hfit R M B w0 a w;refine WX.runV hcall 45 [96,19] [1,2,3] [] rfl (by decide) (F1:=[(96,.lit (.pointer (some ⟨it,0,none⟩))),(19,bx (some g.2.1) (some g.2.2.1) (some g.2.2.2))]) (by kernel_rfl) (WX.nil ?_);obtain⟨_,⟨m1,m2,m3⟩,_,_⟩:=hst.upd hgm (s2:=default) (s3:=default);have hlenop:∀(ks:List ByteArray),goInt (T.entries (sEnt ks)).size=.int .i64 ks.length:=fun ks=>by rw[Bgk];rfl
  refine ToMX.seq (WX.region [0,1,2,3,4,5,6,7,8,9,10] rfl (WX.runV hcall 45 [96,19,102] [0,1] [2,3,4,5,6,7,8,9,10] rfl (by decide) (F1:=[(96,.lit (.pointer (some ⟨it,0,none⟩))),(19,bx (some g.2.1) (some g.2.2.1) (some g.2.2.2)),(102,mp g.2.1)]) (by kernel_rfl) (WX.value rfl rfl fun R M B w0 a w hfit hp=>?_)));have e1:a.eval (.tmp 102)=.map (some g.2.1):=hp.lit (E:=env) (x:=.tmp 102) (fun t ht=>by cases ht;decide) (by kernel_rfl);have q1:=Asm (P:=Tryz.prog) (o:={ dst:=some 103,op:=.call { callee:=.builtin .len,args:=#[.tmp 102],argTypes:=#[131] },type:=3,pos:=default,guard:=none,after:=#[] }) rfl rfl e1 infos.2.2.1 (hp.heap (b:=(g.2.1,sMap (set1 L g.1))) (by simp[m1]));rw[hlenop]at q1;refine⟨_,_,_,_,q1,hp.putLit rfl (some 103) (fun d hd=>by cases hd;decide),?_⟩;clear q1 e1 hp hfit R M B w0 a w;refine WX.runV hcall 45 [96,19,103,105] [3,4] [5,6,7,8,9,10] rfl (by decide) (F1:=[(96,.lit (.pointer (some ⟨it,0,none⟩))),(19,bx (some g.2.1) (some g.2.2.1) (some g.2.2.2)),(103,.lit (.int .i64 (set1 L g.1).length)),(105,mp g.2.2.1)]) (by kernel_rfl) (WX.value rfl rfl fun R M B w0 a w hfit hp=>?_);have e1:a.eval (.tmp 105)=.map (some g.2.2.1):=hp.lit (E:=env) (x:=.tmp 105) (fun t ht=>by cases ht;decide) (by kernel_rfl);have q1:=Asm (P:=Tryz.prog) (o:={ dst:=some 106,op:=.call { callee:=.builtin .len,args:=#[.tmp 105],argTypes:=#[131] },type:=3,pos:=default,guard:=none,after:=#[] }) rfl rfl e1 infos.2.2.1 (hp.heap (b:=(g.2.2.1,sMap (set2 L g.1))) (by simp[m2]));rw[hlenop]at q1;refine⟨_,_,_,_,q1,hp.putLit rfl (some 106) (fun d hd=>by cases hd;decide),?_⟩;clear q1 e1 hp hfit R M B w0 a w;refine WX.runV hcall 45 [96,107,109] [6,7,8] [9,10] rfl (by decide) (F1:=[(96,.lit (.pointer (some ⟨it,0,none⟩))),(107,.lit (.int .i64 (IntKind.i64.wrap (((set1 L g.1).length:Int)*((set2 L g.1).length:Int))))),(109,mp g.2.2.2)]) (by kernel_rfl) (WX.value rfl rfl fun R M B w0 a w hfit hp=>?_);have e1:a.eval (.tmp 109)=.map (some g.2.2.2):=hp.lit (E:=env) (x:=.tmp 109) (fun t ht=>by cases ht;decide) (by kernel_rfl);have q1:=Asm (P:=Tryz.prog) (o:={ dst:=some 110,op:=.call { callee:=.builtin .len,args:=#[.tmp 109],argTypes:=#[131] },type:=3,pos:=default,guard:=none,after:=#[] }) rfl rfl e1 infos.2.2.1 (hp.heap (b:=(g.2.2.2,sMap (set3 L g.1))) (by simp[m3]));rw[hlenop]at q1;refine⟨_,_,_,_,q1,hp.putLit rfl (some 110) (fun d hd=>by cases hd;decide),?_⟩;clear q1 e1 hp hfit R M B w0 a w;refine WX.runV hcall 45 [96,111] [10] [] rfl (by decide) (F1:=[(96,.lit (.pointer (some ⟨it,0,none⟩))),(111,bo (IntKind.i64.wrap (((set1 L g.1).length:Int)*((set2 L g.1).length:Int))!=((set3 L g.1).length:Int)))]) (by kernel_rfl) (WX.nil ?_);rw[Bff hLl];refine ToMX.cond (t:=((((set1 L g.1).length*(set2 L g.1).length:Nat):Int)!=((set3 L g.1).length:Int))) (by kernel_rfl) (fun hne=>?_) (fun heq=>ToMX.skip ?_)
  .refine ToMX.seq (ToMX.region hcall hm 45 [4,5] (by decide) [(4,bo false),(5,.lit (.int .i64 0))] (by kernel_rfl) (ToMX.ret (.inr ⟨rfl,hlv _ false 0 rfl rfl ?_⟩)));have:okH L=false:=by
    cases hq:okH L with
    |false=>rfl
    |true=>
     obtain⟨x,hx,hxg⟩:=zE.1 (hgk g hgm);have:=Avy.1 hq x hx;rw[hxg]at this;unfold okK at this;rw[this]at hne;simp at hne
   rw[hr,this]
  .have hkk:okK L g.1:=by
    unfold okK;have:((((set1 L g.1).length*(set2 L g.1).length:Nat):Int)=((set3 L g.1).length:Int)):=by simpa using heq
    exact Int.ofNat.inj this
   have hnd2:(seen++[j]).Nodup:=by
    rw[List.nodup_append];exact⟨hnd,by simp,fun x hx y hy=>by simp only[zA]at hy;subst hy;rintro rfl;exact hj hx⟩
   have hlt2:∀x∈seen++[j],x<gs.length:=fun x hx=>by
    rcases zF.1 hx with hx|hx
    .exact hlt x hx
    .simp only[zA]at hx;subst hx;exact hjl
   have hsl2:(seen++[j]).length<=gs.length:=by
    have:=hnd2.length_le_of_subset (l₂:=zK gs.length) (fun x hx=>zM.2 (hlt2 x hx));simpa using this
   refine⟨seen++[j],by simp only[List.length_append,List.length_singleton]at hsl2⊢;omega,by kernel_rfl,rfl,hnd2,hlt2,fun x hx g' hg'=>?_⟩;rcases zF.1 hx with hx|hx
   .exact hok x hx g' hg'
   .simp only[zA]at hx;subst hx;rw[hg]at hg';cases hg';exact hkk
end Go.Own.Hol
