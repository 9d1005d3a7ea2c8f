/- What the functions answer. No conditions. -/
import Derived.Test.YtcbhcnkfefbddaaGreatDoorBase2
import Derived.Test.YtcbhcnkfefbddaaGreatDoorOwn20
set_option linter.all false
open List renaming getElem?_append_left->aA,getElem?_eq_getElem->aM,getElem?_take_of_lt->aQ
open Option renaming map_some->a6
open Nat renaming le_of_ble_eq_true->ba
open Eq renaming trans->bo
open Bool renaming false_eq_true->bB
namespace Go.aS.g6
open Go.Proofs D
set_option maxRecDepth 100000
set_option maxHeartbeats 4000000
def infos:eD Tryz.prog 59=some 35/\aY Tryz.prog 35=1/\eD Tryz.prog 30=some 37/\aY Tryz.prog 37=2/\(Tryz.prog.underlying 35).isNone=false/\h0 Tryz.prog 35=false/\(Tryz.prog.info? 35).isSome=true/\j5 Tryz.prog 35=4/\nw Tryz.prog 59=true:=by
 refine⟨by kernel_rfl,by kernel_rfl,by kernel_rfl,by kernel_rfl,by kernel_rfl,by kernel_rfl,by kernel_rfl,by kernel_rfl,by kernel_rfl⟩
def Xd:Nat:=43
abbrev fj:dE Int:=lk .u32
abbrev i64(n:Nat):D:=.lit (.int .i64 n)
abbrev ej(b:Bool):D:=.lit (.bool b)
def DB:List Nat:=[1,7,9]
def AE:List Nat:=[1,7,9,26,27,28]
def m3:List Nat:=[1,7,9,26,27,28,11,32,33,34]
abbrev hY(ms:List (Int×Int))(L:ay)(gg:Bool):Fr:=[(1,.sl (ms.map dY)),(7,.own (L.map fj)),(9,ej gg)]
abbrev n0(ms:List (Int×Int))(L:ay)(gg:Bool)(j:Nat):Fr:=[(1,.sl (ms.map dY)),(7,.own (L.map fj)),(9,ej gg),(26,.sl (ms.map dY)),(27,i64 (ms.map dY).length),(28,i64 j)]
abbrev ju(ms:List (Int×Int))(L:ay)(gg:Bool)(j:Nat)(m:Int×Int)(x:D)(N i:Nat):Fr:=[(1,.sl (ms.map dY)),(7,.own (L.map fj)),(9,ej gg),(26,.sl (ms.map dY)),(27,i64 (ms.map dY).length),(28,i64 j),(11,.box (dY m)),(32,x),(33,i64 N),(34,i64 i)]
section
variable{call:Nat->List D->Option (D×List D)}
def My(x:D)(N i:Nat)(L:ay):Prop:=N<=L.length/\(x=.sub 7 [] 0 N∨∃M:ay,x=.sl (M.map fj)/\M.length=N/\∀q,i<=q->q<N->M[q]?=L[q]?)
def tG{f:Nat}{V:List Nat}{F aD:Fr}{ops:Array Oper}(l:List Nat)(hr:List.range ops.size=l)(h:(fQ env f V call ops l F).map (norm V)=some aD):k8 env f V call ops false F=some aD:=by
 simp only[k8,bB,if_false,hr];exact h
def st_op{f:Nat}{V:List Nat}{F aX aD:Fr}{ops:Array Oper}{i:Nat}{l:List Nat}{o:Oper}(hi:ops[i]?=some o)(hw:fV ops F o=some true)(h:cV env f V call F o=some aX)(k:(fQ env f V call ops l aX).map (norm V)=some aD):(fQ env f V call ops (i::l) F).map (norm V)=some aD:=by
 rw[SG hi hw h];exact k
def tK{f:Nat}{V:List Nat}{F aD:Fr}{ops:Array Oper}{i:Nat}{l:List Nat}{o:Oper}{d:D}(hi:ops[i]?=some o)(hw:fV ops F o=some true)(h:dJ env f call F o=some d)(k:(fQ env f V call ops l (fin F o.dst d)).map (norm V)=some aD):(fQ env f V call ops (i::l) F).map (norm V)=some aD:=
 st_op hi hw (Lq h) k
def Jm{f:Nat}{V:List Nat}{F aX aD:Fr}{ops:Array Oper}{l:List Nat}(l1 l2:List Nat)(hl:l=l1++l2)(h:fQ env f V call ops l1 F=some aX)(k:(fQ env f V call ops l2 aX).map (norm V)=some aD):(fQ env f V call ops l F).map (norm V)=some aD:=by
 rw[hl,Gz h];exact k
end
def alv{x:D}{N i:Nat}{L:ay}{b:Int}(h:My x N i L)(hi:i<N)(ag:L[i]?=some b):(x=.sub 7 [] 0 N/\N<=L.length)∨∃M:ay,x=.sl (M.map fj)/\M[i]?=some b/\M.length=N/\N<=L.length/\∀q,i<=q->q<N->M[q]?=L[q]?:=by
 obtain⟨I,aa|⟨M,aa,aB,aW⟩⟩:=h
 .exact .inl ⟨aa,I⟩
 .exact .inr ⟨M,aa,by rw[aW i (Nat.le_refl _) hi];exact ag,aB,I,aW⟩
def wr(i:Nat)(h:i<1000000000):IntKind.i64.wrap ((i:Int)+1)=((i+1:Nat):Int):=by
 (try rw[Jy]);rw[IntKind.wrap_i64];omega
def M_{call:Nat->List D->Option (D×List D)}(cn:lL env call){az:List D}{r:D}{outs:List D}(h:fz call (zN 43 az)=some (r,outs)):sO env 20 az r outs:=by
 obtain⟨n,ms,x,L,es,rfl,ao,amt,cq,ad,rfl,rfl⟩:=YF h;clear h;have cg:uw Tryz.f20=true:=by kernel_rfl
 have hm:env.P.follows .mixedOrders=true:=by kernel_rfl
 have Ep:Tryz.f20.ntmps=76:=by kernel_rfl
 obtain⟨b_,cM,fI⟩:=Tk (fd:=Tryz.f20) (c:=(Tryz.f20.body).getD .skip) (by kernel_rfl) cg;have hlen:(Nat.ble 3 Tryz.f20.ntmps&&Nat.blt Tryz.f20.ntmps 1000000)=true:=by kernel_rfl
 rw[Bool.and_eq_true]at hlen;refine KC (fd:=Tryz.f20) (c:=(Tryz.f20.body).getD .skip) (V:=[0,1,2]) (by kernel_rfl) b_ (by kernel_rfl) cM fI (by decide) ⟨ba hlen.1,ba hlen.2⟩ ?_;have w_:norm [0,1,2] (nH env 20 0 [.lit (.int .i64 n),.sl (ms.map dY),.lit (.int .u32 x)])=[(0,.lit (.int .i64 n)),(1,.sl (ms.map dY)),(2,.lit (.int .u32 x))]:=by kernel_rfl
 rw[w_,Ep];have tj:∀F:Fr,get F 6=.sl es->C5 env 20 Tryz.f20 [D.lit (.int .i64 n),.sl (ms.map dY),.lit (.int .u32 x)].length (.sl es) [] .ret F:=by
  intro F e2;show ow env 20 Tryz.f20 3 F=_;have hr:Tryz.f20.results.toList=[ResultVar.tmp 6]:=by kernel_rfl
  have hl:ij env 20 0 3=[]:=by kernel_rfl
  simp only[ow,hr,sE,zx,c9,e2,e9,hl,List.map_nil,List.all_nil,if_true,yk]
 generalize C5 env 20 Tryz.f20 [D.lit (.int .i64 n),.sl (ms.map dY),.lit (.int .u32 x)].length (.sl es) []=UO at tj⊢;unfold Tryz.f20;simp only[Option.getD_some];refine bG.seq (bG.region cn hm 20 [0,1,2] (by decide) [(0,.lit (.int .i64 n)),(1,.sl (ms.map dY)),(2,.lit (.int .u32 x))] (by kernel_rfl) ?_);refine bG.seq (bG.region cn hm 20 [0,1,2,7] (by decide) [(0,.lit (.int .i64 n)),(1,.sl (ms.map dY)),(2,.lit (.int .u32 x)),(7,.own [])] (by kernel_rfl) ?_);refine bG.seq (bG.mono (Q:=λe F=>e=.normal/\F=[(1,.sl (ms.map dY)),(7,.own ((ur n x).map fj))]) ?_ ?_)
 .refine bG.seq (bG.region cn hm 20 [1,7,8] (by decide) [(1,.sl (ms.map dY)),(7,.own []),(8,.lit (.int .u32 (uz n x)))] ?_ ?_)
  .refine tG [0,1,2,3,4,5] rfl (tK rfl rfl (d:=.lit (.int .i64 n)) (by kernel_rfl) (tK rfl rfl (T9 (d1:=.lit (.int .u32 1)) (d2:=.lit (.int .i64 n)) rfl (by kernel_rfl) (by kernel_rfl) (Ad ao)) (by kernel_rfl)))
  refine bG.seq (bG.region cn hm 20 [1,7,8,20] (by decide) [(1,.sl (ms.map dY)),(7,.own []),(8,.lit (.int .u32 (uz n x))),(20,ej (uz n x != 0))] (by kernel_rfl) ?_);refine bG.cond (t:=uz n x != 0) (by kernel_rfl) (λau=>?_) (λau=>?_)
  .refine bG.region cn hm 20 [1,7] (by decide) [(1,.sl (ms.map dY)),(7,.own [[.lit (.int .u32 (uz n x))]])] (by kernel_rfl) ⟨rfl,?_⟩;unfold ur;rw[if_pos au];rfl
  .refine bG.kD (V:=[1,7]) (by decide) [(1,.sl (ms.map dY)),(7,.own [])] (by kernel_rfl) (bG.skip ⟨rfl,?_⟩);unfold ur;rw[if_neg (by rw[au];simp)];rfl
 rintro _ _ ⟨rfl,rfl⟩;refine bG.seq (bG.mono (Q:=λe F=>e=.normal/\norm DB F=hY ms L false) ?_ ?_)
 case refine_2=>
  rintro _ F ⟨rfl,e2⟩;refine bG.kD (by decide) _ e2 ?_;have ae:eV (hY ms L false++[(74,.alias 7 [])]) (.alias 7 [])=some (.sl (L.map fj)):=qb (e:=fj) (e':=fj) (λ_=>rfl) rfl;have Nw:∃lR,(lR=hY ms L false++[(74,.alias 7 [])]∨lR=[(1,.sl (ms.map dY)),(7,.sl (L.map fj)),(9,ej false),(74,.alias 7 [])])/\kn env call (hY ms L false++[(74,.alias 7 [])]) 43 (.func 43) [.gK (.tmp 74)]=some (.sl es,lR):=by
   have I:kE env 43 0 (hY ms L false++[(74,.alias 7 [])]) [.gK (.tmp 74)]=some ([none],hY ms L false++[(74,.alias 7 [])]):=by kernel_rfl
   have aa:hk env 43 (hY ms L false++[(74,.alias 7 [])]) (.func 43) 0 [.gK (.tmp 74)]=some none:=by kernel_rfl
   have aB:env.mode 43 0=.snap:=by kernel_rfl
   have aW:j4 env (hY ms L false++[(74,.alias 7 [])]) (.func 43) (.gK (.tmp 74))=some (.alias 7 []):=by kernel_rfl
   have bO:gu env 43 (hY ms L false++[(74,.alias 7 [])]) (hY ms L false++[(74,.alias 7 [])]) (.func 43) none 0 [.gK (.tmp 74)] [none]=some [.sl (L.map fj)]:=by
    simp only[gu,aB,aW,Option.bind_some,ae,q2]
   cases es with
   |nil=>
    refine⟨_,.inl rfl,?_⟩;simp only[kn,I,aa,pI,bO,ad,D.ln,List.all_nil,Bool.and_self,if_true,lq,a6]
   |cons c cs=>
    refine⟨_,.inr rfl,?_⟩;have yV:(D.own (L.map fj)).freeze=some (.sl (L.map fj)):=o9 (λ_=>rfl) L;have ak:b6 (hY ms L false++[(74,.alias 7 [])]) 7 []=some (.own (L.map fj)):=by kernel_rfl
    have c8:setAt (hY ms L false++[(74,.alias 7 [])]) 7 [] (.sl (L.map fj))=some [(1,.sl (ms.map dY)),(7,.sl (L.map fj)),(9,ej false),(74,.alias 7 [])]:=by kernel_rfl
    have va:np [(1,.sl (ms.map dY)),(7,.sl (L.map fj)),(9,ej false),(74,.alias 7 [])] 7 []=[(1,.sl (ms.map dY)),(7,.sl (L.map fj)),(9,ej false),(74,.alias 7 [])]:=by kernel_rfl
    have jK:iu env 43 (hY ms L false++[(74,.alias 7 [])]) (.func 43) 0 [.gK (.tmp 74)]=[.alias 7 []]:=by kernel_rfl
    have c7:lp (hY ms L false++[(74,.alias 7 [])]) [.alias 7 []]=some [(1,.sl (ms.map dY)),(7,.sl (L.map fj)),(9,ej false),(74,.alias 7 [])]:=by
     simp only[lp,uW,mC,kX,ak,D.dC,if_true,yV,c8,a6,va]
    simp only[kn,I,aa,pI,bO,ad,D.ln,D.flat,Bool.false_and,bB,if_false,jK,c7,lq,a6]
  obtain⟨lR,ah6,Nw⟩:=Nw;refine bG.seq (bG.region cn hm 20 [6] (by decide) [(6,.sl es)] ?_ (bG.ret (tj _ rfl)));refine tG [0,1,2] rfl (tK rfl rfl (d:=.alias 7 []) (by kernel_rfl) (st_op (aX:=fin lR (some 75) (.sl es)) rfl rfl ?_ (by rcases ah6 with rfl|rfl<;>kernel_rfl)));exact ad1 (g:=43) (args:=#[.tmp 74]) (tys:=#[59]) rfl Nw (by kernel_rfl)
 refine bG.seq (bG.region cn hm 20 DB (by decide) (hY ms (ur n x) true) (by kernel_rfl) ?_);refine bG.block (bG.Bu (λk F=>∃wN gg,norm DB F=hY ms wN gg/\if gg=true then ∃k',k=k'+2/\uq ms k' wN=some L else wN=L/\1<=k) ?_ ?_ 42 ⟨_,true,by kernel_rfl,by rw[if_pos rfl];exact⟨40,rfl,cq⟩⟩)
 .rintro F ⟨wN,gg,_,h⟩;cases gg with
  |true=>obtain⟨k',h,_⟩:=h;omega
  |false=>obtain⟨_,h⟩:=h;omega
 rintro k F ⟨wN,gg,e2,aj⟩;refine bG.kD (by decide) _ e2 ?_;refine bG.seq (bG.seq (bG.region cn hm 20 [1,7,9,25] (by decide) [(1,.sl (ms.map dY)),(7,.own (wN.map fj)),(9,ej gg),(25,ej gg)] (by kernel_rfl) ?_));refine bG.cond (t:=gg) (by kernel_rfl) (λaC=>bG.skip ?_) (λaC=>bG.exit ?_)
 case refine_2=>
  subst aC;rw[if_neg (by simp)]at aj;obtain⟨rfl,_⟩:=aj;exact⟨rfl,by kernel_rfl⟩
 subst aC;rw[if_pos rfl]at aj;obtain⟨k',l4,aj⟩:=aj;cases k' with
 |zero=>simp[uq]at aj
 |succ k'=>
 obtain rfl:k=k'+2:=by omega
 simp only[uq]at aj
 split at aj
 case h_2=>cases aj
 rename_i bk ds;refine bG.mono (Q:=λe F=>e=.normal/\norm DB F=hY ms bk.1 bk.2) ?_ ?_
 case refine_2=>
  rintro _ aX ⟨rfl,yK⟩;refine⟨bk.1,bk.2,yK,?_⟩;cases dB:bk.2 with
  |true=>rw[dB]at aj;exact⟨k',rfl,by simpa using aj⟩
  |false=>rw[dB]at aj;exact⟨by simpa using aj,by omega⟩
 refine bG.block ?_;refine bG.seq (bG.region cn hm 20 DB (by decide) (hY ms wN false) (by kernel_rfl) ?_);refine bG.seq (bG.region cn hm 20 AE (by decide) (n0 ms wN false 0) (by kernel_rfl) ?_);refine bG.block (bG.Bu (λk F=>∃j aJ gg,j<=ms.length/\k=ms.length-j+1/\norm AE F=n0 ms aJ gg j/\uy (ms.drop j) (aJ,gg)=some bk) ?_ ?_ (ms.length+1) ⟨0,_,_,Nat.zero_le _,rfl,by kernel_rfl,ds⟩)
 .rintro F ⟨j,_,_,_,h,_⟩;omega
 rintro k F ⟨j,aJ,gg,aH,amm,e2,af⟩;refine bG.kD (by decide) _ e2 ?_;have A9:(ms.map dY).length=ms.length:=by simp
 refine bG.seq (bG.region cn hm 20 (AE++[29]) (by decide) (n0 ms aJ gg j++[(29,ej (decide ((j:Int)<((ms.map dY).length:Nat))))]) (by kernel_rfl) ?_);refine bG.seq (bG.cond (t:=decide ((j:Int)<((ms.map dY).length:Nat))) (by kernel_rfl) (λaC=>bG.skip ?_) (λaC=>bG.exit ?_))
 case refine_2=>
  rw[decide_eq_false_iff_not,A9]at aC;have:ms.drop j=[]:=List.drop_eq_nil_iff.2 (by omega);rw[this]at af;simp only[uy,aE]at af;subst af;exact⟨rfl,by kernel_rfl⟩
 have ai5:=aC;rw[decide_eq_true_eq,A9]at ai5;have jy:j<ms.length:=by omega
 obtain⟨m,N3⟩:∃m,ms[j]?=some m:=⟨ms[j],aM jy⟩
 have NG:ms.drop j=m::ms.drop (j+1):=by
  rw[List.drop_eq_getElem_cons jy];rw[aM jy,aE]at N3;rw[N3]
 rw[NG]at af;simp only[uy]at af
 split at af
 case isFalse=>cases af
 rename_i aia
 split at af
 case h_2=>cases af
 rename_i s1 iV;refine bG.seq (bG.mono (Q:=λe F=>e=.normal/\norm AE F=n0 ms s1.1 s1.2 j) ?_ ?_)
 case refine_2=>
  rintro _ aX ⟨rfl,yK⟩;refine bG.kD (by decide) _ yK ?_;refine bG.region cn hm 20 AE (by decide) (n0 ms s1.1 s1.2 (j+1)) ?_ ⟨j+1,s1.1,s1.2,by omega,by omega,by kernel_rfl,af⟩;have hw:=wr j (by omega);have:(n0 ms s1.1 s1.2 (j+1))=[(1,.sl (ms.map dY)),(7,.own (s1.1.map fj)),(9,ej s1.2),(26,.sl (ms.map dY)),(27,i64 (ms.map dY).length),(28,.lit (.int .i64 (IntKind.i64.wrap ((j:Int)+1))))]:=by rw[hw]
  refine bo ?_ (congrArg some this.symm)
  kernel_rfl
 refine bG.block ?_;refine bG.seq (bG.region cn hm 20 (AE++[11]) (by decide) (n0 ms aJ gg j++[(11,.box (dY m))]) ?_ ?_)
 .refine tG [0,1,2,3] rfl (tK rfl rfl (Kq (q:=.i64) (l:=ms) (e:=dY) (a:=m) (i:=(j:Int)) (k:=2) rfl (by kernel_rfl) (by kernel_rfl) infos.2.2.1 infos.2.2.2.1 (by unfold a_;rw[if_pos (by omega)];simpa using N3) rfl) (by kernel_rfl))
 refine bG.seq (bG.region cn hm 20 m3 (by decide) (ju ms aJ gg j m (.alias 7 []) (aJ.map fj).length 0) (by kernel_rfl) ?_);refine bG.sub (s:=7) (r:=32) (es:=aJ.map fj) (k:=1) (pt:=[1,7,9,26,27,28,11,33,34]) (V:=m3) (by decide) (by decide) (by kernel_rfl) (by kernel_rfl) (by intro e he;obtain⟨_,_,rfl⟩:=List.mem_map.1 he;rfl) (by decide) (by kernel_rfl) (by kernel_rfl) ?_;refine bG.kD (V:=m3) (by decide) (ju ms aJ gg j m (.sub 7 [] 0 (aJ.map fj).length) (aJ.map fj).length 0) (by kernel_rfl) ?_;have eL:(aJ.map fj).length=aJ.length:=by simp
 rw[eL];generalize aih:aJ.length=N at iV aia⊢;refine bG.block (bG.Bu (λk F=>∃i bm jt x',i<=N/\k=N-i+1/\norm m3 F=ju ms bm jt j m x' N i/\My x' N i bm/\sI m.1 m.2 (N-i) i (bm,jt)=some s1) ?_ ?_ (N+1) ⟨0,aJ,gg,_,Nat.zero_le _,rfl,by kernel_rfl,⟨by omega,.inl rfl⟩,iV⟩)
 .rintro F ⟨i,_,_,_,_,h,_⟩;omega
 clear iV aih eL;rintro k F ⟨i,bm,jt,x',hi,NW,e2,l7,ch⟩;refine bG.kD (by decide) _ e2 ?_;refine bG.seq (bG.region cn hm 20 (m3++[35]) (by decide) (ju ms bm jt j m x' N i++[(35,ej (decide ((i:Int)<(N:Int))))]) (by rcases l7.2 with rfl|⟨M,rfl,_⟩<;>kernel_rfl) ?_);refine bG.seq (bG.cond (t:=decide ((i:Int)<(N:Int))) (by kernel_rfl) (λaC=>bG.skip ?_) (λaC=>bG.exit ?_))
 case refine_2=>
  rw[decide_eq_false_iff_not]at aC;have:N-i=0:=by omega
  rw[this]at ch;simp only[sI,aE]at ch;subst ch;exact⟨rfl,by kernel_rfl⟩
 rw[decide_eq_true_eq]at aC;have Wg:i<N:=by omega
 obtain⟨q,au⟩:∃q,N-i=q+1:=⟨N-i-1,by omega⟩
 rw[au]at ch;simp only[sI]at ch
 split at ch
 .cases ch
 rename_i b ag;refine bG.seq (bG.mono (Q:=λe F=>e=.normal/\∃ax cd m5,norm m3 F=ju ms cd m5 j m ax N i/\My ax N (i+1) cd/\sI m.1 m.2 q (i+1) (cd,m5)=some s1) ?_ ?_)
 case refine_2=>
  rintro _ aX ⟨rfl,ax,cd,m5,yK,Oh,ai3⟩;refine bG.kD (by decide) _ yK ?_;refine bG.region cn hm 20 m3 (by decide) (ju ms cd m5 j m ax N (i+1)) ?_ ⟨i+1,cd,m5,ax,by omega,by omega,by rcases Oh.2 with rfl|⟨M,rfl,_⟩<;>kernel_rfl,Oh,by rw[show N-(i+1)=q by omega];exact ai3⟩;have hw:=wr i (by omega);have:(ju ms cd m5 j m ax N (i+1))=[(1,.sl (ms.map dY)),(7,.own (cd.map fj)),(9,ej m5),(26,.sl (ms.map dY)),(27,i64 (ms.map dY).length),(28,i64 j),(11,.box (dY m)),(32,ax),(33,i64 N),(34,.lit (.int .i64 (IntKind.i64.wrap ((i:Int)+1))))]:=by rw[hw]
  refine bo ?_ (congrArg some this.symm);rcases Oh.2 with rfl|⟨M,rfl,_⟩<;>kernel_rfl
 refine bG.block ?_;refine bG.seq (bG.region cn hm 20 (m3++[12,13]) (by decide) (ju ms bm jt j m x' N i++[(12,i64 i),(13,.lit (.int .u32 b))]) ?_ ?_)
 .rcases alv l7 Wg ag with⟨rfl,hle⟩|⟨M,rfl,bW,_⟩
  .refine tG [0,1,2,3,4] rfl (tK rfl rfl (d:=i64 i) (by kernel_rfl) (tK rfl rfl (Qw (q:=.i64) (off:=0) (len:=N) (s:=7) (ps:=[]) (l:=bm) (e:=fj) (a:=b) (i:=(i:Int)) (k:=1) rfl (by kernel_rfl) (by kernel_rfl) (by kernel_rfl) infos.1 infos.2.1 (by omega) ?_ rfl) (tK rfl rfl (zL (s:=7) (ps:=[]) (n:=0+(i:Int).toNat) (c:=0) (l:=bm) (e:=fj) (a:=b) (d:=.lit (.int .u32 b)) rfl (by kernel_rfl) (by kernel_rfl) infos.2.2.2.2.1 (by simpa using ag) ?_) (by kernel_rfl))))
   .unfold a_;rw[if_pos (by omega)];rw[List.drop_zero,Int.toNat_natCast,aQ Wg];exact ag
   .kernel_rfl
  .refine tG [0,1,2,3,4] rfl (tK rfl rfl (d:=i64 i) (by kernel_rfl) (tK rfl rfl (Kq (q:=.i64) (l:=M) (e:=fj) (a:=b) (i:=(i:Int)) (k:=1) rfl (by kernel_rfl) (by kernel_rfl) infos.1 infos.2.1 (by unfold a_;rw[if_pos (by omega)];simpa using bW) rfl) (by kernel_rfl)))
 refine bG.seq (bG.region cn hm 20 (m3++[12,13,57]) (by decide) (ju ms bm jt j m x' N i++[(12,i64 i),(13,.lit (.int .u32 b)),(57,ej (o3 m.1 m.2 b))]) ?_ ?_)
 .refine tG [0,1,2,3,4,5,6,7,8,9,10,11,12,13,14,15,16,17,18] rfl ?_;refine Jm (aX:=ju ms bm jt j m x' N i++[(12,i64 i),(13,.lit (.int .u32 b)),(39,.lit (.int .u32 b)),(40,.place 11 [] 0 0),(41,.lit (.int .u32 m.1)),(42,.lit (.int .u32 (dW .u32 b m.1))),(43,ej (dW .u32 b m.1==0)),(44,ej (dW .u32 b m.1==0))]) [0,1,2,3,4,5] [6,7,8,9,10,11,12,13,14,15,16,17,18] rfl (by rcases l7.2 with rfl|⟨M,rfl,_⟩<;>kernel_rfl) ?_;cases I:(dW .u32 b m.1==0)with
  |false=>
   have he:o3 m.1 m.2 b=false:=by unfold o3;rw[I];rfl
   refine bo (b:=some (ju ms bm jt j m x' N i++[(12,i64 i),(13,.lit (.int .u32 b)),(57,ej false)])) ?_ (by rw[he]);rcases l7.2 with rfl|⟨M,rfl,_⟩<;>kernel_rfl
  |true=>
   refine Jm (aX:=ju ms bm jt j m x' N i++[(12,i64 i),(13,.lit (.int .u32 b)),(39,.lit (.int .u32 b)),(40,.place 11 [] 0 0),(41,.lit (.int .u32 m.1)),(42,.lit (.int .u32 (dW .u32 b m.1))),(43,ej true),(44,ej true),
    (45,.lit (.int .u32 b)),(46,.place 11 [] 0 1),(47,.lit (.int .u32 m.2)),(48,.lit (.int .u32 (dW .u32 b m.2))),(49,ej (dW .u32 b m.2 != 0)),(50,ej (dW .u32 b m.2 != 0)),(51,ej (dW .u32 b m.2 != 0))]) [6,7,8,9,10,11,12] [13,14,15,16,17,18] rfl (by rcases l7.2 with rfl|⟨M,rfl,_⟩<;>kernel_rfl) ?_
   cases aa:(dW .u32 b m.2 != 0)with
   |false=>
    have he:o3 m.1 m.2 b=false:=by unfold o3;rw[I,aa];rfl
    refine bo (b:=some (ju ms bm jt j m x' N i++[(12,i64 i),(13,.lit (.int .u32 b)),(57,ej false)])) ?_ (by rw[he]);rcases l7.2 with rfl|⟨M,rfl,_⟩<;>kernel_rfl
   |true=>
    have he:o3 m.1 m.2 b=(fK .u32 b m.2 != 0):=by unfold o3;rw[I,aa];rfl
    refine bo (b:=some (ju ms bm jt j m x' N i++[(12,i64 i),(13,.lit (.int .u32 b)),(57,ej (fK .u32 b m.2 != 0))])) ?_ (by rw[he]);rcases l7.2 with rfl|⟨M,rfl,_⟩<;>kernel_rfl
 refine bG.cond (t:=o3 m.1 m.2 b) (by kernel_rfl) (λae=>?_) (λae=>bG.skip ?_)
 case refine_2=>
  rw[if_neg (by rw[ae];simp)]at ch;refine⟨rfl,x',bm,jt,by rcases l7.2 with rfl|⟨M,rfl,_⟩<;>kernel_rfl,⟨l7.1,?_⟩,ch⟩;rcases l7.2 with h|⟨M,I,aa,aB⟩
  .exact .inl h
  .exact .inr ⟨M,I,aa,λq au=>aB q (by omega)⟩
 rw[if_pos ae]at ch
 split at ch
 case isFalse=>cases ch
 rename_i amg;have ajd:(bm.set i (dW .u32 b m.2)).length=bm.length:=by simp
 have amh:=l7.1;refine bG.seq (bG.region cn hm 20 (m3++[12,13]) (by decide) (ju ms (bm.set i (dW .u32 b m.2)) jt j m x' N i++[(12,i64 i),(13,.lit (.int .u32 b))]) ?_ ?_)
 .refine tG [0,1,2,3,4,5,6,7] rfl ?_;refine Jm (aX:=ju ms bm jt j m x' N i++[(12,i64 i),(13,.lit (.int .u32 b)),(57,ej (o3 m.1 m.2 b)),(58,.alias 7 []),(59,i64 i),(60,.lit (.int .u32 b)),(61,.place 11 [] 0 1),(62,.lit (.int .u32 m.2)),(63,.lit (.int .u32 (dW .u32 b m.2)))]) [0,1,2,3,4,5] [6,7] rfl (by rcases l7.2 with rfl|⟨M,rfl,_⟩<;>kernel_rfl) ?_;refine tK rfl rfl (zQ (q:=.i64) (s:=7) (ps:=[]) (l:=bm) (e:=fj) (a:=b) (i:=(i:Int)) (k:=1) rfl (by kernel_rfl) (by kernel_rfl) (by kernel_rfl) infos.1 infos.2.1 (by unfold a_;rw[if_pos (by omega)];simpa using ag) rfl) ?_
  refine st_op rfl rfl (Lh (s:=7) (ps:=[]) (n:=(i:Int).toNat) (c:=0) (k:=1) (l:=bm) (e:=fj) (a:=b) (b:=dW .u32 b m.2) (d:=.lit (.int .u32 (dW .u32 b m.2))) (aX:=ju ms bm jt j m x' N i++[(12,i64 i),(13,.lit (.int .u32 b)),(57,ej (o3 m.1 m.2 b)),(58,.alias 7 []),(59,i64 i),(60,.lit (.int .u32 b)),(61,.place 11 [] 0 1),(62,.lit (.int .u32 m.2)),(63,.lit (.int .u32 (dW .u32 b m.2))),(64,.place 7 [] (i:Int).toNat 0)])
   (bN:=ju ms (bm.set (i:Int).toNat (dW .u32 b m.2)) jt j m x' N i++[(12,i64 i),(13,.lit (.int .u32 b)),(57,ej (o3 m.1 m.2 b)),(58,.alias 7 []),(59,i64 i),(60,.lit (.int .u32 b)),(61,.place 11 [] 0 1),(62,.lit (.int .u32 m.2)),(63,.lit (.int .u32 (dW .u32 b m.2))),(64,.place 7 [] (i:Int).toNat 0)]) rfl (by rcases l7.2 with rfl|⟨M,rfl,_⟩<;>kernel_rfl) (by kernel_rfl) (by kernel_rfl) (by simpa using ag) infos.2.2.2.2.2.2.1 infos.2.1 rfl rfl rfl (by kernel_rfl)) ?_
  rcases l7.2 with rfl|⟨M,rfl,_⟩
  .exact (by kernel_rfl)
  .exact (by kernel_rfl)
 generalize ah_:bm.set i (dW .u32 b m.2)=cd at ch ajd⊢;have aG:fC env.P 35=some (.lit (.int .u32 0)):=by kernel_rfl
 rcases l7.2 with rfl|⟨M,rfl,aic,aid⟩
 .refine bG.seq (bG.split (f:=20) (V:=m3) (wQ:=[1,7,9,26,27,28,11,33,34,12,13,65,66,67,68,69,70]) (Hy:=m3++[12,13]) cn (L:=cd.map (Value.int .u32)) (AQ:=cd.map fj) (es':=(cd++[fK .u32 b m.2]).map fj) (s:=7) (r:=32) (m:=N) (d:=71) (i:=6) (j:=7) (l:=[0,1,2,3,4,5]) (t:=59) (u:=59) (x:=.tmp 65) (y:=.tmp 70)
   (bN:=ju ms cd jt j m (.sub 7 [] 0 N) N i++[(12,i64 i),(13,.lit (.int .u32 b)),(65,.alias 7 []),(66,.lit (.int .u32 b)),(67,.place 11 [] 0 1),(68,.lit (.int .u32 m.2)),(69,.lit (.int .u32 (fK .u32 b m.2))),(70,.own [[.lit (.int .u32 (fK .u32 b m.2))]])])
   (jf:=[(1,.sl (ms.map dY)),(7,.own ((cd++[fK .u32 b m.2]).map fj)),(9,ej jt),(26,.sl (ms.map dY)),(27,i64 (ms.map dY).length),(28,i64 j),(11,.box (dY m)),(33,i64 N),(34,i64 i),(12,i64 i),(13,.lit (.int .u32 b)),(65,.undef),(66,.lit (.int .u32 b)),(67,.place 11 [] 0 1),(68,.lit (.int .u32 m.2)),(69,.lit (.int .u32 (fK .u32 b m.2))),(70,.own [[.lit (.int .u32 (fK .u32 b m.2))]]),(71,.undef)])
   (by rw[List.map_map];rfl) rfl (by kernel_rfl) (by kernel_rfl) (by kernel_rfl) (by intro aO;have:=congrArg List.length aO;simp at this;have bO:=List.eq_nil_iff_length_eq_zero.1 this;omega) (by decide) (by decide) rfl rfl rfl rfl infos.2.2.2.2.2.2.2.2 (by kernel_rfl)
   (ZG (l:=cd) (m:=[fK .u32 b m.2]) (e:=fj) (k:=1) (c:=4) infos.1 aG rfl (aX:=[(1,.sl (ms.map dY)),(7,.undef),(9,ej jt),(26,.sl (ms.map dY)),(27,i64 (ms.map dY).length),(28,i64 j),(11,.box (dY m)),(33,i64 N),(34,i64 i),(12,i64 i),(13,.lit (.int .u32 b)),(65,.undef),(66,.lit (.int .u32 b)),(67,.place 11 [] 0 1),(68,.lit (.int .u32 m.2)),(69,.lit (.int .u32 (fK .u32 b m.2))),(70,.own [[.lit (.int .u32 (fK .u32 b m.2))]])]) (bN:=[(1,.sl (ms.map dY)),(7,.undef),(9,ej jt),(26,.sl (ms.map dY)),(27,i64 (ms.map dY).length),(28,i64 j),(11,.box (dY m)),(33,i64 N),(34,i64 i),(12,i64 i),(13,.lit (.int .u32 b)),(65,.undef),(66,.lit (.int .u32 b)),(67,.place 11 [] 0 1),(68,.lit (.int .u32 m.2)),(69,.lit (.int .u32 (fK .u32 b m.2))),(70,.own [[.lit (.int .u32 (fK .u32 b m.2))]])]) (by kernel_rfl) (by kernel_rfl) infos.2.1 rfl infos.2.2.2.2.2.2.2.1 rfl (λ_=>rfl) (by simp;omega))
   rfl rfl rfl rfl (by decide) (by decide) (by decide) (by decide) (by decide) (by kernel_rfl) (by kernel_rfl) (by simp) (by simp;omega) (by simp;omega) (by kernel_rfl) ?_ ?_)
  .refine bG.region cn hm 20 m3 (by decide) (ju ms (cd++[fK .u32 b m.2]) true j m (.sub 7 [] 0 N) N i) (by kernel_rfl) ⟨rfl,.sub 7 [] 0 N,_,true,by kernel_rfl,⟨by simp;omega,.inl rfl⟩,ch⟩
  .rw [<-List.map_take];refine bG.region cn hm 20 m3 (by decide) (ju ms (cd++[fK .u32 b m.2]) true j m (.sl ((cd.take N).map fj)) N i) (by kernel_rfl) ⟨rfl,.sl ((cd.take N).map fj),_,true,by kernel_rfl,⟨by simp;omega,.inr ⟨_,rfl,by simp;omega,λq I aa=>?_⟩⟩,ch⟩;rw[aQ aa,aA (by omega)]
 .refine bG.seq (bG.region cn hm 20 (m3++[12,13]) (by decide) (ju ms (cd++[fK .u32 b m.2]) jt j m (.sl (M.map fj)) N i++[(12,i64 i),(13,.lit (.int .u32 b))]) ?_ ?_)
  .refine tG [0,1,2,3,4,5,6,7] rfl ?_;refine Jm (aX:=ju ms cd jt j m (.sl (M.map fj)) N i++[(12,i64 i),(13,.lit (.int .u32 b)),(65,.alias 7 []),(66,.lit (.int .u32 b)),(67,.place 11 [] 0 1),(68,.lit (.int .u32 m.2)),(69,.lit (.int .u32 (fK .u32 b m.2))),(70,.own [[.lit (.int .u32 (fK .u32 b m.2))]])]) [0,1,2,3,4,5] [6,7] rfl (by kernel_rfl) ?_;refine st_op rfl rfl (CM (l:=cd) (m:=[fK .u32 b m.2]) (e:=fj) (k:=1) (c:=4) rfl infos.2.2.2.2.2.2.2.2 infos.1 aG rfl (aX:=[(1,.sl (ms.map dY)),(7,.undef),(9,ej jt),(26,.sl (ms.map dY)),(27,i64 (ms.map dY).length),(28,i64 j),(11,.box (dY m)),(32,.sl (M.map fj)),(33,i64 N),(34,i64 i),(12,i64 i),(13,.lit (.int .u32 b)),(65,.undef),(66,.lit (.int .u32 b)),(67,.place 11 [] 0 1),(68,.lit (.int .u32 m.2)),(69,.lit (.int .u32 (fK .u32 b m.2))),(70,.own [[.lit (.int .u32 (fK .u32 b m.2))]])]) (bN:=[(1,.sl (ms.map dY)),(7,.undef),(9,ej jt),(26,.sl (ms.map dY)),(27,i64 (ms.map dY).length),(28,i64 j),(11,.box (dY m)),(32,.sl (M.map fj)),(33,i64 N),(34,i64 i),(12,i64 i),(13,.lit (.int .u32 b)),(65,.undef),(66,.lit (.int .u32 b)),(67,.place 11 [] 0 1),(68,.lit (.int .u32 m.2)),(69,.lit (.int .u32 (fK .u32 b m.2))),(70,.own [[.lit (.int .u32 (fK .u32 b m.2))]])]) (by kernel_rfl) (by kernel_rfl) infos.2.1 rfl infos.2.2.2.2.2.2.2.1 rfl (λ_=>rfl) (by simp;omega)) ?_;exact(by kernel_rfl)
  .refine bG.region cn hm 20 m3 (by decide) (ju ms (cd++[fK .u32 b m.2]) true j m (.sl (M.map fj)) N i) (by kernel_rfl) ⟨rfl,.sl (M.map fj),_,true,by kernel_rfl,⟨by simp;omega,.inr ⟨M,rfl,aic,λq I aa=>?_⟩⟩,ch⟩;rw[aid q (by omega) aa,<-ah_,aA (by simp;omega),List.getElem?_set_ne (by omega)]
end Go.aS.g6
