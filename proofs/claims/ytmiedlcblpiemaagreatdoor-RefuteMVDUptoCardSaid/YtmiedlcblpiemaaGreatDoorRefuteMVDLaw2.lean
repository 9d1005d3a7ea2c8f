/- What the functions answer. No conditions. -/
import Derived.Test.YtmiedlcblpiemaaGreatDoorBase2
import Derived.Test.YtmiedlcblpiemaaGreatDoorOwn21
set_option linter.all false
open List renaming getElem?_append_left->zA,getElem?_eq_getElem->zB,getElem?_take_of_lt->zC
open Option renaming map_some->zD
open Nat renaming le_of_ble_eq_true->zE
open Eq renaming trans->zF
open Bool renaming false_eq_true->zG
namespace Go.Own.Blk
open Go.Proofs D
set_option maxRecDepth 100000
set_option maxHeartbeats 4000000
def infos:sliceT Tryz.prog 71=some 34/\sizeT Tryz.prog 34=1/\sliceT Tryz.prog 29=some 54/\sizeT Tryz.prog 54=2/\(Tryz.prog.underlying 34).isNone=false/\isAggT Tryz.prog 34=false/\(Tryz.prog.info? 34).isSome=true/\bytesT Tryz.prog 34=4/\rowT Tryz.prog 71=true:=by
 refine⟨by kernel_rfl,by kernel_rfl,by kernel_rfl,by kernel_rfl,by kernel_rfl,by kernel_rfl,by kernel_rfl,by kernel_rfl,by kernel_rfl⟩
def ordF:Nat:=94
abbrev eU:Enc Int:=eI .u32
abbrev i64(n:Nat):D:=.lit (.int .i64 n)
abbrev bo(b:Bool):D:=.lit (.bool b)
def VA:List Nat:=[1,7,9]
def VB:List Nat:=[1,7,9,26,27,28]
def VD:List Nat:=[1,7,9,26,27,28,11,32,33,34]
abbrev fA(ms:List (Int×Int))(L:List Int)(ag:Bool):Fr:=[(1,.sl (ms.map eMv)),(7,.own (L.map eU)),(9,bo ag)]
abbrev fB(ms:List (Int×Int))(L:List Int)(ag:Bool)(j:Nat):Fr:=[(1,.sl (ms.map eMv)),(7,.own (L.map eU)),(9,bo ag),(26,.sl (ms.map eMv)),(27,i64 (ms.map eMv).length),(28,i64 j)]
abbrev fD(ms:List (Int×Int))(L:List Int)(ag:Bool)(j:Nat)(m:Int×Int)(x:D)(N i:Nat):Fr:=[(1,.sl (ms.map eMv)),(7,.own (L.map eU)),(9,bo ag),(26,.sl (ms.map eMv)),(27,i64 (ms.map eMv).length),(28,i64 j),(11,.box (eMv m)),(32,x),(33,i64 N),(34,i64 i)]
section
variable{call:Nat->List D->Option (D×List D)}
def Shows(x:D)(N i:Nat)(L:List Int):Prop:=N<=L.length/\(x=.sub 7 [] 0 N∨∃M:List Int,x=.sl (M.map eU)/\M.length=N/\∀q,i<=q->q<N->M[q]?=L[q]?)
def reg_list{f:Nat}{V:List Nat}{F F':Fr}{ops:Array Oper}(l:List Nat)(hr:List.range ops.size=l)(h:(opsC env f V call ops l F).map (norm V)=some F'):regC env f V call ops false F=some F':=by
 simp only[regC,zG,if_false,hr];exact h
def st_op{f:Nat}{V:List Nat}{F F1 F':Fr}{ops:Array Oper}{i:Nat}{l:List Nat}{o:Oper}(hi:ops[i]?=some o)(hw:wantedD ops F o=some true)(h:opC env f V call F o=some F1)(k:(opsC env f V call ops l F1).map (norm V)=some F'):(opsC env f V call ops (i::l) F).map (norm V)=some F':=by
 rw[Axl hi hw h];exact k
def st_val{f:Nat}{V:List Nat}{F F':Fr}{ops:Array Oper}{i:Nat}{l:List Nat}{o:Oper}{d:D}(hi:ops[i]?=some o)(hw:wantedD ops F o=some true)(h:valC env f call F o=some d)(k:(opsC env f V call ops l (fin F o.dst d)).map (norm V)=some F'):(opsC env f V call ops (i::l) F).map (norm V)=some F':=
 st_op hi hw (At2 h) k
def st_run{f:Nat}{V:List Nat}{F F1 F':Fr}{ops:Array Oper}{l:List Nat}(l1 l2:List Nat)(hl:l=l1++l2)(h:opsC env f V call ops l1 F=some F1)(k:(opsC env f V call ops l2 F1).map (norm V)=some F'):(opsC env f V call ops l F).map (norm V)=some F':=by
 rw[hl,Aoe h];exact k
end
def shows_lget{x:D}{N i:Nat}{L:List Int}{b:Int}(h:Shows x N i L)(hi:i<N)(hb:L[i]?=some b):(x=.sub 7 [] 0 N/\N<=L.length)∨∃M:List Int,x=.sl (M.map eU)/\M[i]?=some b/\M.length=N/\N<=L.length/\∀q,i<=q->q<N->M[q]?=L[q]?:=by
 obtain⟨h1,h2|⟨M,h2,h3,h4⟩⟩:=h
 .exact .inl ⟨h2,h1⟩
 .exact .inr ⟨M,h2,by rw[h4 i (Nat.le_refl _) hi];exact hb,h3,h1,h4⟩
def wr(i:Nat)(h:i<1000000000):IntKind.i64.wrap ((i:Int)+1)=((i+1:Nat):Int):=by
 rw[IntKind.wrap_i64];omega
def fnok{call:Nat->List D->Option (D×List D)}(hcall:Acr env call){ds:List D}{r:D}{outs:List D}(h:runAsk call (Ags 94 ds)=some (r,outs)):FnOK env 91 ds r outs:=by
 obtain⟨n,ms,x,L,es,rfl,hn,hms,hL,hc,rfl,rfl⟩:=Axz h;clear h;have hB:Aka Tryz.f91=true:=by kernel_rfl
 have hm:env.P.follows .mixedOrders=true:=by kernel_rfl
 have hnt:Tryz.f91.ntmps=76:=by kernel_rfl
 obtain⟨q1,q2,q3⟩:=Azq (fd:=Tryz.f91) (c:=(Tryz.f91.body).getD .skip) (by kernel_rfl) hB;have hlen:(Nat.ble 3 Tryz.f91.ntmps&&Nat.blt Tryz.f91.ntmps 1000000)=true:=by kernel_rfl
 rw[Bool.and_eq_true]at hlen;refine Apq (fd:=Tryz.f91) (c:=(Tryz.f91.body).getD .skip) (V:=[0,1,2]) (by kernel_rfl) q1 (by kernel_rfl) q2 q3 (by decide) ⟨zE hlen.1,zE hlen.2⟩ ?_;have hb0:norm [0,1,2] (Aea env 91 0 [.lit (.int .i64 n),.sl (ms.map eMv),.lit (.int .u32 x)])=[(0,.lit (.int .i64 n)),(1,.sl (ms.map eMv)),(2,.lit (.int .u32 x))]:=by kernel_rfl
 rw[hb0,hnt];have hlv:∀F:Fr,get F 6=.sl es->Amu env 91 Tryz.f91 [D.lit (.int .i64 n),.sl (ms.map eMv),.lit (.int .u32 x)].length (.sl es) [] .ret F:=by
  intro F hF;show Aej env 91 Tryz.f91 3 F=_;have hr:Tryz.f91.results.toList=[ResultVar.tmp 6]:=by kernel_rfl
  have hl:Aci env 91 0 3=[]:=by kernel_rfl
  simp only[Aej,hr,Aep,resC,takeOp,hF,takeSlot,hl,List.map_nil,List.all_nil,if_true,Aod]
 generalize Amu env 91 Tryz.f91 [D.lit (.int .i64 n),.sl (ms.map eMv),.lit (.int .u32 x)].length (.sl es) []=Q0 at hlv⊢;unfold Tryz.f91;simp only[Option.getD_some];refine ToM.seq (ToM.region hcall hm 91 [0,1,2] (by decide) [(0,.lit (.int .i64 n)),(1,.sl (ms.map eMv)),(2,.lit (.int .u32 x))] (by kernel_rfl) ?_);refine ToM.seq (ToM.region hcall hm 91 [0,1,2,7] (by decide) [(0,.lit (.int .i64 n)),(1,.sl (ms.map eMv)),(2,.lit (.int .u32 x)),(7,.own [])] (by kernel_rfl) ?_);refine ToM.seq (ToM.mono (Q:=fun e F=>e=.normal/\F=[(1,.sl (ms.map eMv)),(7,.own ((Aio n x).map eU))]) ?_ ?_)
 .refine ToM.seq (ToM.region hcall hm 91 [1,7,8] (by decide) [(1,.sl (ms.map eMv)),(7,.own []),(8,.lit (.int .u32 (Akj n x)))] ?_ ?_)
  .refine reg_list [0,1,2,3,4,5] rfl (st_val rfl rfl (d:=.lit (.int .i64 n)) (by kernel_rfl) (st_val rfl rfl (Bcy (d1:=.lit (.int .u32 1)) (d2:=.lit (.int .i64 n)) rfl (by kernel_rfl) (by kernel_rfl) (Aqw hn)) (by kernel_rfl)))
  refine ToM.seq (ToM.region hcall hm 91 [1,7,8,20] (by decide) [(1,.sl (ms.map eMv)),(7,.own []),(8,.lit (.int .u32 (Akj n x))),(20,bo (Akj n x != 0))] (by kernel_rfl) ?_);refine ToM.cond (t:=Akj n x != 0) (by kernel_rfl) (fun hq=>?_) (fun hq=>?_)
  .refine ToM.region hcall hm 91 [1,7] (by decide) [(1,.sl (ms.map eMv)),(7,.own [[.lit (.int .u32 (Akj n x))]])] (by kernel_rfl) ⟨rfl,?_⟩;unfold Aio;rw[if_pos hq];rfl
  .refine ToM.normed (V:=[1,7]) (by decide) [(1,.sl (ms.map eMv)),(7,.own [])] (by kernel_rfl) (ToM.skip ⟨rfl,?_⟩);unfold Aio;rw[if_neg (by rw[hq];simp)];rfl
 rintro _ _ ⟨rfl,rfl⟩;refine ToM.seq (ToM.mono (Q:=fun e F=>e=.normal/\norm VA F=fA ms L false) ?_ ?_)
 case refine_2=>
  rintro _ F ⟨rfl,hF⟩;refine ToM.normed (by decide) _ hF ?_;have hs:snapD (fA ms L false++[(74,.alias 7 [])]) (.alias 7 [])=some (.sl (L.map eU)):=Aba (e:=eU) (e':=eU) (fun _=>rfl) rfl;have hcC:∃F3,(F3=fA ms L false++[(74,.alias 7 [])]∨F3=[(1,.sl (ms.map eMv)),(7,.sl (L.map eU)),(9,bo false),(74,.alias 7 [])])/\callC env call (fA ms L false++[(74,.alias 7 [])]) 94 (.func 94) [.opn (.tmp 74)]=some (.sl es,F3):=by
   have h1:passMoves env 94 0 (fA ms L false++[(74,.alias 7 [])]) [.opn (.tmp 74)]=some ([none],fA ms L false++[(74,.alias 7 [])]):=by kernel_rfl
   have h2:lentFrom env 94 (fA ms L false++[(74,.alias 7 [])]) (.func 94) 0 [.opn (.tmp 74)]=some none:=by kernel_rfl
   have h3:env.mode 94 0=.snap:=by kernel_rfl
   have h4:argD env (fA ms L false++[(74,.alias 7 [])]) (.func 94) (.opn (.tmp 74))=some (.alias 7 []):=by kernel_rfl
   have h5:passRest env 94 (fA ms L false++[(74,.alias 7 [])]) (fA ms L false++[(74,.alias 7 [])]) (.func 94) none 0 [.opn (.tmp 74)] [none]=some [.sl (L.map eU)]:=by
    simp only[passRest,h3,h4,Option.bind_some,hs,restOne]
   cases es with
   |nil=>
    refine⟨_,.inl rfl,?_⟩;simp only[callC,h1,h2,holeC,h5,hc,D.flatR,List.all_nil,Bool.and_self,if_true,giveBack,zD]
   |cons c cs=>
    refine⟨_,.inr rfl,?_⟩;have hfz:(D.own (L.map eU)).freeze=some (.sl (L.map eU)):=Acj (fun _=>rfl) L;have hg:getAt (fA ms L false++[(74,.alias 7 [])]) 7 []=some (.own (L.map eU)):=by kernel_rfl
    have hst:setAt (fA ms L false++[(74,.alias 7 [])]) 7 [] (.sl (L.map eU))=some [(1,.sl (ms.map eMv)),(7,.sl (L.map eU)),(9,bo false),(74,.alias 7 [])]:=by kernel_rfl
    have hkl:killB [(1,.sl (ms.map eMv)),(7,.sl (L.map eU)),(9,bo false),(74,.alias 7 [])] 7 []=[(1,.sl (ms.map eMv)),(7,.sl (L.map eU)),(9,bo false),(74,.alias 7 [])]:=by kernel_rfl
    have hsn:snapSrcs env 94 (fA ms L false++[(74,.alias 7 [])]) (.func 94) 0 [.opn (.tmp 74)]=[.alias 7 []]:=by kernel_rfl
    have h6:frzAll (fA ms L false++[(74,.alias 7 [])]) [.alias 7 []]=some [(1,.sl (ms.map eMv)),(7,.sl (L.map eU)),(9,bo false),(74,.alias 7 [])]:=by
     simp only[frzAll,frzD,frz1,frzAt,hg,D.ex1,if_true,hfz,hst,zD,hkl]
    simp only[callC,h1,h2,holeC,h5,hc,D.flatR,D.flat,Bool.false_and,zG,if_false,hsn,h6,giveBack,zD]
  obtain⟨F3,hF3,hcC⟩:=hcC;refine ToM.seq (ToM.region hcall hm 91 [6] (by decide) [(6,.sl es)] ?_ (ToM.ret (hlv _ rfl)));refine reg_list [0,1,2] rfl (st_val rfl rfl (d:=.alias 7 []) (by kernel_rfl) (st_op (F1:=fin F3 (some 75) (.sl es)) rfl rfl ?_ (by rcases hF3 with rfl|rfl<;>kernel_rfl)));exact Blf (g:=94) (args:=#[.tmp 74]) (tys:=#[71]) rfl hcC (by kernel_rfl)
 refine ToM.seq (ToM.region hcall hm 91 VA (by decide) (fA ms (Aio n x) true) (by kernel_rfl) ?_);refine ToM.block (ToM.loopInd (fun k F=>∃L0 ag,norm VA F=fA ms L0 ag/\if ag=true then ∃k',k=k'+2/\Aii ms k' L0=some L else L0=L/\1<=k) ?_ ?_ 42 ⟨_,true,by kernel_rfl,by rw[if_pos rfl];exact⟨40,rfl,hL⟩⟩)
 .rintro F ⟨L0,ag,_,h⟩;cases ag with
  |true=>obtain⟨k',h,_⟩:=h;omega
  |false=>obtain⟨_,h⟩:=h;omega
 rintro k F ⟨L0,ag,hF,hk⟩;refine ToM.normed (by decide) _ hF ?_;refine ToM.seq (ToM.seq (ToM.region hcall hm 91 [1,7,9,25] (by decide) [(1,.sl (ms.map eMv)),(7,.own (L0.map eU)),(9,bo ag),(25,bo ag)] (by kernel_rfl) ?_));refine ToM.cond (t:=ag) (by kernel_rfl) (fun ha=>ToM.skip ?_) (fun ha=>ToM.exit ?_)
 case refine_2=>
  subst ha;rw[if_neg (by simp)]at hk;obtain⟨rfl,_⟩:=hk;exact⟨rfl,by kernel_rfl⟩
 subst ha;rw[if_pos rfl]at hk;obtain⟨k',hkk,hk⟩:=hk;cases k' with
 |zero=>simp[Aii]at hk
 |succ k'=>
 obtain rfl:k=k'+2:=by omega
 simp only[Aii]at hk
 split at hk
 case h_2=>cases hk
 rename_i s' hs';refine ToM.mono (Q:=fun e F=>e=.normal/\norm VA F=fA ms s'.1 s'.2) ?_ ?_
 case refine_2=>
  rintro _ F1 ⟨rfl,hF1⟩;refine⟨s'.1,s'.2,hF1,?_⟩;cases hag:s'.2 with
  |true=>rw[hag]at hk;exact⟨k',rfl,by simpa using hk⟩
  |false=>rw[hag]at hk;exact⟨by simpa using hk,by omega⟩
 refine ToM.block ?_;refine ToM.seq (ToM.region hcall hm 91 VA (by decide) (fA ms L0 false) (by kernel_rfl) ?_);refine ToM.seq (ToM.region hcall hm 91 VB (by decide) (fB ms L0 false 0) (by kernel_rfl) ?_);refine ToM.block (ToM.loopInd (fun k F=>∃j L1 ag,j<=ms.length/\k=ms.length-j+1/\norm VB F=fB ms L1 ag j/\Aki (ms.drop j) (L1,ag)=some s') ?_ ?_ (ms.length+1) ⟨0,_,_,Nat.zero_le _,rfl,by kernel_rfl,hs'⟩)
 .rintro F ⟨j,_,_,_,h,_⟩;omega
 rintro k F ⟨j,L1,ag,hj,hkj,hF,hp⟩;refine ToM.normed (by decide) _ hF ?_;have hml:(ms.map eMv).length=ms.length:=by simp
 refine ToM.seq (ToM.region hcall hm 91 (VB++[29]) (by decide) (fB ms L1 ag j++[(29,bo (decide ((j:Int)<((ms.map eMv).length:Nat))))]) (by kernel_rfl) ?_);refine ToM.seq (ToM.cond (t:=decide ((j:Int)<((ms.map eMv).length:Nat))) (by kernel_rfl) (fun ha=>ToM.skip ?_) (fun ha=>ToM.exit ?_))
 case refine_2=>
  rw[decide_eq_false_iff_not,hml]at ha;have:ms.drop j=[]:=List.drop_eq_nil_iff.2 (by omega);rw[this]at hp;simp only[Aki,zJ]at hp;subst hp;exact⟨rfl,by kernel_rfl⟩
 have hja:=ha;rw[decide_eq_true_eq,hml]at hja;have hjl:j<ms.length:=by omega
 obtain⟨m,hmj⟩:∃m,ms[j]?=some m:=⟨ms[j],zB hjl⟩
 have hdrop:ms.drop j=m::ms.drop (j+1):=by
  rw[List.drop_eq_getElem_cons hjl];rw[zB hjl,zJ]at hmj;rw[hmj]
 rw[hdrop]at hp;simp only[Aki]at hp
 split at hp
 case isFalse=>cases hp
 rename_i hL9
 split at hp
 case h_2=>cases hp
 rename_i s1 hs1;refine ToM.seq (ToM.mono (Q:=fun e F=>e=.normal/\norm VB F=fB ms s1.1 s1.2 j) ?_ ?_)
 case refine_2=>
  rintro _ F1 ⟨rfl,hF1⟩;refine ToM.normed (by decide) _ hF1 ?_;refine ToM.region hcall hm 91 VB (by decide) (fB ms s1.1 s1.2 (j+1)) ?_ ⟨j+1,s1.1,s1.2,by omega,by omega,by kernel_rfl,hp⟩;have hw:=wr j (by omega);have:(fB ms s1.1 s1.2 (j+1))=[(1,.sl (ms.map eMv)),(7,.own (s1.1.map eU)),(9,bo s1.2),(26,.sl (ms.map eMv)),(27,i64 (ms.map eMv).length),(28,.lit (.int .i64 (IntKind.i64.wrap ((j:Int)+1))))]:=by rw[hw]
  refine zF ?_ (congrArg some this.symm)
  kernel_rfl
 refine ToM.block ?_;refine ToM.seq (ToM.region hcall hm 91 (VB++[11]) (by decide) (fB ms L1 ag j++[(11,.box (eMv m))]) ?_ ?_)
 .refine reg_list [0,1,2,3] rfl (st_val rfl rfl (Aop (q:=.i64) (l:=ms) (e:=eMv) (a:=m) (i:=(j:Int)) (k:=2) rfl (by kernel_rfl) (by kernel_rfl) infos.2.2.1 infos.2.2.2.1 (by unfold lget;rw[if_pos (by omega)];simpa using hmj) rfl) (by kernel_rfl))
 refine ToM.seq (ToM.region hcall hm 91 VD (by decide) (fD ms L1 ag j m (.alias 7 []) (L1.map eU).length 0) (by kernel_rfl) ?_);refine ToM.sub (s:=7) (r:=32) (es:=L1.map eU) (k:=1) (V1:=[1,7,9,26,27,28,11,33,34]) (V:=VD) (by decide) (by decide) (by kernel_rfl) (by kernel_rfl) (by intro e he;obtain⟨_,_,rfl⟩:=List.mem_map.1 he;rfl) (by decide) (by kernel_rfl) (by kernel_rfl) ?_;refine ToM.normed (V:=VD) (by decide) (fD ms L1 ag j m (.sub 7 [] 0 (L1.map eU).length) (L1.map eU).length 0) (by kernel_rfl) ?_;have hN:(L1.map eU).length=L1.length:=by simp
 rw[hN];generalize hNN:L1.length=N at hs1 hL9⊢;refine ToM.block (ToM.loopInd (fun k F=>∃i L2 ag2 x',i<=N/\k=N-i+1/\norm VD F=fD ms L2 ag2 j m x' N i/\Shows x' N i L2/\Ah7 m.1 m.2 (N-i) i (L2,ag2)=some s1) ?_ ?_ (N+1) ⟨0,L1,ag,_,Nat.zero_le _,rfl,by kernel_rfl,⟨by omega,.inl rfl⟩,hs1⟩)
 .rintro F ⟨i,_,_,_,_,h,_⟩;omega
 clear hs1 hNN hN;rintro k F ⟨i,L2,ag2,x',hi,hki,hF,hsh,hin⟩;refine ToM.normed (by decide) _ hF ?_;refine ToM.seq (ToM.region hcall hm 91 (VD++[35]) (by decide) (fD ms L2 ag2 j m x' N i++[(35,bo (decide ((i:Int)<(N:Int))))]) (by rcases hsh.2 with rfl|⟨M,rfl,_⟩<;>kernel_rfl) ?_);refine ToM.seq (ToM.cond (t:=decide ((i:Int)<(N:Int))) (by kernel_rfl) (fun ha=>ToM.skip ?_) (fun ha=>ToM.exit ?_))
 case refine_2=>
  rw[decide_eq_false_iff_not]at ha;have:N-i=0:=by omega
  rw[this]at hin;simp only[Ah7,zJ]at hin;subst hin;exact⟨rfl,by kernel_rfl⟩
 rw[decide_eq_true_eq]at ha;have hiN:i<N:=by omega
 obtain⟨q,hq⟩:∃q,N-i=q+1:=⟨N-i-1,by omega⟩
 rw[hq]at hin;simp only[Ah7]at hin
 split at hin
 .cases hin
 rename_i b hb;refine ToM.seq (ToM.mono (Q:=fun e F=>e=.normal/\∃x2 L3 ag3,norm VD F=fD ms L3 ag3 j m x2 N i/\Shows x2 N (i+1) L3/\Ah7 m.1 m.2 q (i+1) (L3,ag3)=some s1) ?_ ?_)
 case refine_2=>
  rintro _ F1 ⟨rfl,x2,L3,ag3,hF1,hsh3,hin3⟩;refine ToM.normed (by decide) _ hF1 ?_;refine ToM.region hcall hm 91 VD (by decide) (fD ms L3 ag3 j m x2 N (i+1)) ?_ ⟨i+1,L3,ag3,x2,by omega,by omega,by rcases hsh3.2 with rfl|⟨M,rfl,_⟩<;>kernel_rfl,hsh3,by rw[show N-(i+1)=q by omega];exact hin3⟩;have hw:=wr i (by omega);have:(fD ms L3 ag3 j m x2 N (i+1))=[(1,.sl (ms.map eMv)),(7,.own (L3.map eU)),(9,bo ag3),(26,.sl (ms.map eMv)),(27,i64 (ms.map eMv).length),(28,i64 j),(11,.box (eMv m)),(32,x2),(33,i64 N),(34,.lit (.int .i64 (IntKind.i64.wrap ((i:Int)+1))))]:=by rw[hw]
  refine zF ?_ (congrArg some this.symm);rcases hsh3.2 with rfl|⟨M,rfl,_⟩<;>kernel_rfl
 refine ToM.block ?_;refine ToM.seq (ToM.region hcall hm 91 (VD++[12,13]) (by decide) (fD ms L2 ag2 j m x' N i++[(12,i64 i),(13,.lit (.int .u32 b))]) ?_ ?_)
 .rcases shows_lget hsh hiN hb with⟨rfl,hle⟩|⟨M,rfl,hM,_⟩
  .refine reg_list [0,1,2,3,4] rfl (st_val rfl rfl (d:=i64 i) (by kernel_rfl) (st_val rfl rfl (Ap1 (q:=.i64) (off:=0) (len:=N) (s:=7) (ps:=[]) (l:=L2) (e:=eU) (a:=b) (i:=(i:Int)) (k:=1) rfl (by kernel_rfl) (by kernel_rfl) (by kernel_rfl) infos.1 infos.2.1 (by omega) ?_ rfl) (st_val rfl rfl (Asa (s:=7) (ps:=[]) (n:=0+(i:Int).toNat) (c:=0) (l:=L2) (e:=eU) (a:=b) (d:=.lit (.int .u32 b)) rfl (by kernel_rfl) (by kernel_rfl) infos.2.2.2.2.1 (by simpa using hb) ?_) (by kernel_rfl))))
   .unfold lget;rw[if_pos (by omega)];rw[List.drop_zero,Int.toNat_natCast,zC hiN];exact hb
   .kernel_rfl
  .refine reg_list [0,1,2,3,4] rfl (st_val rfl rfl (d:=i64 i) (by kernel_rfl) (st_val rfl rfl (Aop (q:=.i64) (l:=M) (e:=eU) (a:=b) (i:=(i:Int)) (k:=1) rfl (by kernel_rfl) (by kernel_rfl) infos.1 infos.2.1 (by unfold lget;rw[if_pos (by omega)];simpa using hM) rfl) (by kernel_rfl)))
 refine ToM.seq (ToM.region hcall hm 91 (VD++[12,13,57]) (by decide) (fD ms L2 ag2 j m x' N i++[(12,i64 i),(13,.lit (.int .u32 b)),(57,bo (splI m.1 m.2 b))]) ?_ ?_)
 .refine reg_list [0,1,2,3,4,5,6,7,8,9,10,11,12,13,14,15,16,17,18] rfl ?_;refine st_run (F1:=fD ms L2 ag2 j m x' N i++[(12,i64 i),(13,.lit (.int .u32 b)),(39,.lit (.int .u32 b)),(40,.place 11 [] 0 0),(41,.lit (.int .u32 m.1)),(42,.lit (.int .u32 (bAnd .u32 b m.1))),(43,bo (bAnd .u32 b m.1==0)),(44,bo (bAnd .u32 b m.1==0))]) [0,1,2,3,4,5] [6,7,8,9,10,11,12,13,14,15,16,17,18] rfl (by rcases hsh.2 with rfl|⟨M,rfl,_⟩<;>kernel_rfl) ?_;cases h1:(bAnd .u32 b m.1==0)with
  |false=>
   have he:splI m.1 m.2 b=false:=by unfold splI;rw[h1];rfl
   refine zF (b:=some (fD ms L2 ag2 j m x' N i++[(12,i64 i),(13,.lit (.int .u32 b)),(57,bo false)])) ?_ (by rw[he]);rcases hsh.2 with rfl|⟨M,rfl,_⟩<;>kernel_rfl
  |true=>
   refine st_run (F1:=fD ms L2 ag2 j m x' N i++[(12,i64 i),(13,.lit (.int .u32 b)),(39,.lit (.int .u32 b)),(40,.place 11 [] 0 0),(41,.lit (.int .u32 m.1)),(42,.lit (.int .u32 (bAnd .u32 b m.1))),(43,bo true),(44,bo true),
    (45,.lit (.int .u32 b)),(46,.place 11 [] 0 1),(47,.lit (.int .u32 m.2)),(48,.lit (.int .u32 (bAnd .u32 b m.2))),(49,bo (bAnd .u32 b m.2 != 0)),(50,bo (bAnd .u32 b m.2 != 0)),(51,bo (bAnd .u32 b m.2 != 0))]) [6,7,8,9,10,11,12] [13,14,15,16,17,18] rfl (by rcases hsh.2 with rfl|⟨M,rfl,_⟩<;>kernel_rfl) ?_
   cases h2:(bAnd .u32 b m.2 != 0)with
   |false=>
    have he:splI m.1 m.2 b=false:=by unfold splI;rw[h1,h2];rfl
    refine zF (b:=some (fD ms L2 ag2 j m x' N i++[(12,i64 i),(13,.lit (.int .u32 b)),(57,bo false)])) ?_ (by rw[he]);rcases hsh.2 with rfl|⟨M,rfl,_⟩<;>kernel_rfl
   |true=>
    have he:splI m.1 m.2 b=(Aae .u32 b m.2 != 0):=by unfold splI;rw[h1,h2];rfl
    refine zF (b:=some (fD ms L2 ag2 j m x' N i++[(12,i64 i),(13,.lit (.int .u32 b)),(57,bo (Aae .u32 b m.2 != 0))])) ?_ (by rw[he]);rcases hsh.2 with rfl|⟨M,rfl,_⟩<;>kernel_rfl
 refine ToM.cond (t:=splI m.1 m.2 b) (by kernel_rfl) (fun hs=>?_) (fun hs=>ToM.skip ?_)
 case refine_2=>
  rw[if_neg (by rw[hs];simp)]at hin;refine⟨rfl,x',L2,ag2,by rcases hsh.2 with rfl|⟨M,rfl,_⟩<;>kernel_rfl,⟨hsh.1,?_⟩,hin⟩;rcases hsh.2 with h|⟨M,h1,h2,h3⟩
  .exact .inl h
  .exact .inr ⟨M,h1,h2,fun q hq=>h3 q (by omega)⟩
 rw[if_pos hs]at hin
 split at hin
 case isFalse=>cases hin
 rename_i hL29;have hlen3:(L2.set i (bAnd .u32 b m.2)).length=L2.length:=by simp
 have hNL:=hsh.1;refine ToM.seq (ToM.region hcall hm 91 (VD++[12,13]) (by decide) (fD ms (L2.set i (bAnd .u32 b m.2)) ag2 j m x' N i++[(12,i64 i),(13,.lit (.int .u32 b))]) ?_ ?_)
 .refine reg_list [0,1,2,3,4,5,6,7] rfl ?_;refine st_run (F1:=fD ms L2 ag2 j m x' N i++[(12,i64 i),(13,.lit (.int .u32 b)),(57,bo (splI m.1 m.2 b)),(58,.alias 7 []),(59,i64 i),(60,.lit (.int .u32 b)),(61,.place 11 [] 0 1),(62,.lit (.int .u32 m.2)),(63,.lit (.int .u32 (bAnd .u32 b m.2)))]) [0,1,2,3,4,5] [6,7] rfl (by rcases hsh.2 with rfl|⟨M,rfl,_⟩<;>kernel_rfl) ?_;refine st_val rfl rfl (Av3 (q:=.i64) (s:=7) (ps:=[]) (l:=L2) (e:=eU) (a:=b) (i:=(i:Int)) (k:=1) rfl (by kernel_rfl) (by kernel_rfl) (by kernel_rfl) infos.1 infos.2.1 (by unfold lget;rw[if_pos (by omega)];simpa using hb) rfl) ?_
  refine st_op rfl rfl (Baj (s:=7) (ps:=[]) (n:=(i:Int).toNat) (c:=0) (k:=1) (l:=L2) (e:=eU) (a:=b) (b:=bAnd .u32 b m.2) (d:=.lit (.int .u32 (bAnd .u32 b m.2))) (F1:=fD ms L2 ag2 j m x' N i++[(12,i64 i),(13,.lit (.int .u32 b)),(57,bo (splI m.1 m.2 b)),(58,.alias 7 []),(59,i64 i),(60,.lit (.int .u32 b)),(61,.place 11 [] 0 1),(62,.lit (.int .u32 m.2)),(63,.lit (.int .u32 (bAnd .u32 b m.2))),(64,.place 7 [] (i:Int).toNat 0)])
   (F2:=fD ms (L2.set (i:Int).toNat (bAnd .u32 b m.2)) ag2 j m x' N i++[(12,i64 i),(13,.lit (.int .u32 b)),(57,bo (splI m.1 m.2 b)),(58,.alias 7 []),(59,i64 i),(60,.lit (.int .u32 b)),(61,.place 11 [] 0 1),(62,.lit (.int .u32 m.2)),(63,.lit (.int .u32 (bAnd .u32 b m.2))),(64,.place 7 [] (i:Int).toNat 0)]) rfl (by rcases hsh.2 with rfl|⟨M,rfl,_⟩<;>kernel_rfl) (by kernel_rfl) (by kernel_rfl) (by simpa using hb) infos.2.2.2.2.2.2.1 infos.2.1 rfl rfl rfl (by kernel_rfl)) ?_
  rcases hsh.2 with rfl|⟨M,rfl,_⟩
  .exact (by kernel_rfl)
  .exact (by kernel_rfl)
 generalize hL3:L2.set i (bAnd .u32 b m.2)=L3 at hin hlen3⊢;have hz:zeroT env.P 34=some (.lit (.int .u32 0)):=by kernel_rfl
 rcases hsh.2 with rfl|⟨M,rfl,hM1,hM2⟩
 .refine ToM.seq (ToM.split (f:=91) (V:=VD) (V2:=[1,7,9,26,27,28,11,33,34,12,13,65,66,67,68,69,70]) (V3:=VD++[12,13]) hcall (L:=L3.map (Value.int .u32)) (es0:=L3.map eU) (es':=(L3++[Aae .u32 b m.2]).map eU) (s:=7) (r:=32) (m:=N) (d:=71) (i:=6) (j:=7) (l:=[0,1,2,3,4,5]) (t:=71) (u:=71) (x:=.tmp 65) (y:=.tmp 70)
   (F2:=fD ms L3 ag2 j m (.sub 7 [] 0 N) N i++[(12,i64 i),(13,.lit (.int .u32 b)),(65,.alias 7 []),(66,.lit (.int .u32 b)),(67,.place 11 [] 0 1),(68,.lit (.int .u32 m.2)),(69,.lit (.int .u32 (Aae .u32 b m.2))),(70,.own [[.lit (.int .u32 (Aae .u32 b m.2))]])])
   (F4:=[(1,.sl (ms.map eMv)),(7,.own ((L3++[Aae .u32 b m.2]).map eU)),(9,bo ag2),(26,.sl (ms.map eMv)),(27,i64 (ms.map eMv).length),(28,i64 j),(11,.box (eMv m)),(33,i64 N),(34,i64 i),(12,i64 i),(13,.lit (.int .u32 b)),(65,.undef),(66,.lit (.int .u32 b)),(67,.place 11 [] 0 1),(68,.lit (.int .u32 m.2)),(69,.lit (.int .u32 (Aae .u32 b m.2))),(70,.own [[.lit (.int .u32 (Aae .u32 b m.2))]]),(71,.undef)])
   (by rw[List.map_map];rfl) rfl (by kernel_rfl) (by kernel_rfl) (by kernel_rfl) (by intro h0;have:=congrArg List.length h0;simp at this;have h5:=List.eq_nil_iff_length_eq_zero.1 this;omega) (by decide) (by decide) rfl rfl rfl rfl infos.2.2.2.2.2.2.2.2 (by kernel_rfl)
   (Bd5 (l:=L3) (m:=[Aae .u32 b m.2]) (e:=eU) (k:=1) (c:=4) infos.1 hz rfl (F1:=[(1,.sl (ms.map eMv)),(7,.undef),(9,bo ag2),(26,.sl (ms.map eMv)),(27,i64 (ms.map eMv).length),(28,i64 j),(11,.box (eMv m)),(33,i64 N),(34,i64 i),(12,i64 i),(13,.lit (.int .u32 b)),(65,.undef),(66,.lit (.int .u32 b)),(67,.place 11 [] 0 1),(68,.lit (.int .u32 m.2)),(69,.lit (.int .u32 (Aae .u32 b m.2))),(70,.own [[.lit (.int .u32 (Aae .u32 b m.2))]])]) (F2:=[(1,.sl (ms.map eMv)),(7,.undef),(9,bo ag2),(26,.sl (ms.map eMv)),(27,i64 (ms.map eMv).length),(28,i64 j),(11,.box (eMv m)),(33,i64 N),(34,i64 i),(12,i64 i),(13,.lit (.int .u32 b)),(65,.undef),(66,.lit (.int .u32 b)),(67,.place 11 [] 0 1),(68,.lit (.int .u32 m.2)),(69,.lit (.int .u32 (Aae .u32 b m.2))),(70,.own [[.lit (.int .u32 (Aae .u32 b m.2))]])]) (by kernel_rfl) (by kernel_rfl) infos.2.1 rfl infos.2.2.2.2.2.2.2.1 rfl (fun _=>rfl) (by simp;omega))
   rfl rfl rfl rfl (by decide) (by decide) (by decide) (by decide) (by decide) (by kernel_rfl) (by kernel_rfl) (by simp) (by simp;omega) (by simp;omega) (by kernel_rfl) ?_ ?_)
  .refine ToM.region hcall hm 91 VD (by decide) (fD ms (L3++[Aae .u32 b m.2]) true j m (.sub 7 [] 0 N) N i) (by kernel_rfl) ⟨rfl,.sub 7 [] 0 N,_,true,by kernel_rfl,⟨by simp;omega,.inl rfl⟩,hin⟩
  .rw [<-List.map_take];refine ToM.region hcall hm 91 VD (by decide) (fD ms (L3++[Aae .u32 b m.2]) true j m (.sl ((L3.take N).map eU)) N i) (by kernel_rfl) ⟨rfl,.sl ((L3.take N).map eU),_,true,by kernel_rfl,⟨by simp;omega,.inr ⟨_,rfl,by simp;omega,fun q h1 h2=>?_⟩⟩,hin⟩;rw[zC h2,zA (by omega)]
 .refine ToM.seq (ToM.region hcall hm 91 (VD++[12,13]) (by decide) (fD ms (L3++[Aae .u32 b m.2]) ag2 j m (.sl (M.map eU)) N i++[(12,i64 i),(13,.lit (.int .u32 b))]) ?_ ?_)
  .refine reg_list [0,1,2,3,4,5,6,7] rfl ?_;refine st_run (F1:=fD ms L3 ag2 j m (.sl (M.map eU)) N i++[(12,i64 i),(13,.lit (.int .u32 b)),(65,.alias 7 []),(66,.lit (.int .u32 b)),(67,.place 11 [] 0 1),(68,.lit (.int .u32 m.2)),(69,.lit (.int .u32 (Aae .u32 b m.2))),(70,.own [[.lit (.int .u32 (Aae .u32 b m.2))]])]) [0,1,2,3,4,5] [6,7] rfl (by kernel_rfl) ?_;refine st_op rfl rfl (Aju (l:=L3) (m:=[Aae .u32 b m.2]) (e:=eU) (k:=1) (c:=4) rfl infos.2.2.2.2.2.2.2.2 infos.1 hz rfl (F1:=[(1,.sl (ms.map eMv)),(7,.undef),(9,bo ag2),(26,.sl (ms.map eMv)),(27,i64 (ms.map eMv).length),(28,i64 j),(11,.box (eMv m)),(32,.sl (M.map eU)),(33,i64 N),(34,i64 i),(12,i64 i),(13,.lit (.int .u32 b)),(65,.undef),(66,.lit (.int .u32 b)),(67,.place 11 [] 0 1),(68,.lit (.int .u32 m.2)),(69,.lit (.int .u32 (Aae .u32 b m.2))),(70,.own [[.lit (.int .u32 (Aae .u32 b m.2))]])]) (F2:=[(1,.sl (ms.map eMv)),(7,.undef),(9,bo ag2),(26,.sl (ms.map eMv)),(27,i64 (ms.map eMv).length),(28,i64 j),(11,.box (eMv m)),(32,.sl (M.map eU)),(33,i64 N),(34,i64 i),(12,i64 i),(13,.lit (.int .u32 b)),(65,.undef),(66,.lit (.int .u32 b)),(67,.place 11 [] 0 1),(68,.lit (.int .u32 m.2)),(69,.lit (.int .u32 (Aae .u32 b m.2))),(70,.own [[.lit (.int .u32 (Aae .u32 b m.2))]])]) (by kernel_rfl) (by kernel_rfl) infos.2.1 rfl infos.2.2.2.2.2.2.2.1 rfl (fun _=>rfl) (by simp;omega)) ?_;exact(by kernel_rfl)
  .refine ToM.region hcall hm 91 VD (by decide) (fD ms (L3++[Aae .u32 b m.2]) true j m (.sl (M.map eU)) N i) (by kernel_rfl) ⟨rfl,.sl (M.map eU),_,true,by kernel_rfl,⟨by simp;omega,.inr ⟨M,rfl,hM1,fun q h1 h2=>?_⟩⟩,hin⟩;rw[hM2 q (by omega) h2,<-hL3,zA (by simp;omega),List.getElem?_set_ne (by omega)]
end Go.Own.Blk
