/- No conditions. -/
import Derived.Test.YtfpooeoklmlepaaGreatDoorOwn20
set_option linter.all false
open Option renaming isSome_iff_exists->zA,map_some->zB
open List renaming set_cons_zero->zC,getElem?_cons_zero->zD,length_nil->zG
open Bool renaming false_eq_true->zE,and_eq_true->zF
open Prod.mk renaming injEq->zH
namespace Go.Own
open D
section
variable{E:Env}{f:Nat}{V:List Nat}{Q:Ex->Fr->Prop}{m:Mc}{α ρ:Type}
theorem Bfu{g:Nat}{F:Fr}{o:Oper}{ds outs:List D}{r r':D}(hc:clOK E g F o outs=true)
  (hr:passRest E g (clOf E g F o).f1 (clOf E g F o).f2 (clOf E g F o).x (clOf E g F o).ld 0 (clOf E g F o).agl (clOf E g F o).ms=some ds) (hret:Ret E g ds r outs)
  (hf:(if r.flatR&&outs.all flat then some (clOf E g F o).f1 else frzAll (clOf E g F o).f1 (snapSrcs E g (clOf E g F o).f1 (clOf E g F o).x 0 (clOf E g F o).agl))=some (clOf E g F o).f1)
  (hcold:coldD (E.eager f (o.dst.getD 0)) r=some r'):∃N,∀n,N<=n->opC E f V (Abw E n) F o=some (fin (gbF (clOf E g F o).f1 (clOf E g F o).l outs) o.dst r'):=by
 obtain⟨N,hN⟩:=hret;refine⟨N,fun n hn=>?_⟩;simp only[clOK,zF]at hc;obtain⟨⟨⟨⟨⟨hc,hfn⟩,hm⟩,hl⟩,hh⟩,hg⟩:=hc;obtain⟨x,hx⟩:=zA.1 hc;obtain⟨⟨ms,F1⟩,hm⟩:=zA.1 hm;obtain⟨l,hl⟩:=zA.1 hl;obtain⟨⟨ld,F2⟩,hh⟩:=zA.1 hh;obtain⟨F4,hg⟩:=zA.1 hg;have ex:cX o=x:=by unfold cX;rw[hx];rfl
 have ef:(clOf E g F o).f1=F1:=by simp only[clOf,pmF,hm]
 have em:(clOf E g F o).ms=ms:=by simp only[clOf,cMs,hm]
 have el:(clOf E g F o).l=l:=by
  have:(clOf E g F o).l=cL E g (clOf E g F o).f1 (cX o) (cA E F o):=rfl;rw[this];simp only[cL,hl];rfl
 have eh:(clOf E g F o).ld=ld:=by
  have:(clOf E g F o).ld=cLd (clOf E g F o).f1 (clOf E g F o).l:=rfl;rw[this];simp only[cLd,hh]
 have e2:(clOf E g F o).f2=F2:=by
  have:(clOf E g F o).f2=hoF (clOf E g F o).f1 (clOf E g F o).l:=rfl;rw[this];simp only[hoF,hh]
 have egb:gbF (clOf E g F o).f1 (clOf E g F o).l outs=F4:=by simp only[gbF,hg];rfl
 obtain⟨caps,hfn⟩:∃caps,opd E F (cX o)=some (fn g caps):=by
  unfold fnIs at hfn
  split at hfn
  .rename_i g' cs h;rw[Nat.eq_of_beq_eq_true hfn]at h;exact⟨cs,h⟩
  .cases hfn
 have ea:(clOf E g F o).agl=argsOf (Aez o.op) caps.length:=by simp only[clOf,cA,Aou,hfn]
 have eX:(clOf E g F o).x=x:=ex;rw[egb];rw[ef,e2,eX,eh,em,ea]at hr;rw[ef,eX,ea]at hf;have ea':cA E F o=argsOf (Aez o.op) caps.length:=ea;rw[ea']at hm;rw[ef,ex,ea']at hl;rw[ef,el]at hh hg;rw[ex]at hfn;unfold opC;unfold Aeu at hx
 split at hx
 .rename_i c hop
  split at hx
  .rename_i y hcl;simp only[zJ]at hx;subst hx;simp only[hop,hcl,hfn];simp only[Aez,hop]at hm hl hr hf;have:callC E (Abw E n) F g y (argsOf c.args.toList caps.length)=some (r,F4):=by
    unfold callC;simp only[hm,hl,hh,hr,hN n hn,hf,hg,zB]
   simp only[this,Option.bind_some,hcold,zB]
  .cases hx
 .cases hx
def effL(E:Env)(f:Nat):Mc->List (Nat×D)->List (Nat×Path)->Bool
 | .op _ ops draw _ j s,p,K=>match ops[j]? with
  |some o=>draw&&!Abs ops j&&Aju (wantedD ops (frd draw ops j s) o)&&(Aeu o.op).isSome&&Ari E f ops s.1 j s.2 o p K
  |none=>false
 |_,_,_=>false
theorem Bmm{p:List (Nat×D)}{K:List (Nat×Path)}(hok:effL E f m p K=true)(h:∃N,∀n,N<=n->effC E f V (Abw E n) (mF m) (mO m)=some (p,K))(k:MhD E f V Q (mEf m p K)):MhD E f V Q m:=by
 obtain⟨N,h⟩:=h;cases m with
 |pt c F=>cases hok
 |bad=>cases hok
 |op id ops draw ks j s=>
  refine MhD.op_step ⟨N,fun n hn=>?_⟩ k;have h:=h n hn;simp only[effL]at hok
  split at hok
  .rename_i o ho;simp only[zF]at hok;obtain⟨⟨⟨⟨hd,han⟩,hw⟩,hcal⟩,hef⟩:=hok;have hw:=Aik hw;have han:Abs ops j=false:=by simpa using han
   cases draw with
   |false=>cases hd
   |true=>
    simp only[mF,mO,ho,frd,han,Bool.not_false,Bool.and_self,cond_true]at h hw;have hl:effS E f V (Abw E n) ops s.1 j s.2 o=some ((j,p.map (·.1),some K)::s.1,putsF p s.2):=by
     unfold effS;simp only[Arh h,hw,h];rw[if_pos hef]
    have hpn:Aau E f (Abw E n) ops (Abi (Aag ops s.1 j) s.2) o=none:=by
     rcases Ax2 h with hn|⟨cl,g,u,rest,h1,h2,h3,h4⟩
     .exfalso;unfold Aeu at hcal
      split at hcal
      .rename_i c hop
       split at hcal
       .rename_i y hcl;exact hn c y hop hcl
       .cases hcal
      .cases hcal
     .have hv:valC E f (Abw E n) (Abi (Aag ops s.1 j) s.2) o=none:=by
       have hs:Ago E g (argsOf cl.args.toList 0).length=false:=by
        unfold Ago;rw[List.all_eq_false];refine⟨0,by rw[List.mem_range,h3];simp[argsOf],by rw[h4];decide⟩
       unfold valC;simp only[h1,h2,opd,zG,hs,zE,if_false]
      unfold Aau;rw[hv];rw[hw]
    unfold Ag1;simp only[ho,cond_true,han,cond_false,hpn,hl]
  .cases hok
def clFr(E:Env)(g:Nat)(m:Mc)(outs:List D)(r:D):Fr:=fin (gbF (clOf E g (mF m) (mO m)).f1 (clOf E g (mF m) (mO m)).l outs) (mO m).dst r
def clRL(E:Env)(g:Nat)(m:Mc):Option (List D):=passRest E g (clOf E g (mF m) (mO m)).f1 (clOf E g (mF m) (mO m)).f2 (clOf E g (mF m) (mO m)).x (clOf E g (mF m) (mO m)).ld 0 (clOf E g (mF m) (mO m)).agl (clOf E g (mF m) (mO m)).ms
theorem Bgn(n:Nat){g:Nat}{P:ρ->Prop}{R:ρ->Prop}{res:ρ->D}{outs:ρ->List D}{ds:List D}(h:∃r,P r/\R r)(hP:∀r,P r->Ret E g ds (res r) (outs r))
  (k:∀r,P r->R r->Mh E f V Q (mEf (runM E f V n m) (acP E (runM E f V n m) (clFr E g (runM E f V n m) (outs r) (res r))) (apK E (runM E f V n m))))
  (K:∀r,(effL E f (runM E f V n m) (acP E (runM E f V n m) (clFr E g (runM E f V n m) (outs r) (res r))) (apK E (runM E f V n m)),clOK E g (mF (runM E f V n m)) (mO (runM E f V n m)) (outs r),clE E f (runM E f V n m),(Abt E (mF (runM E f V n m)) (mO (runM E f V n m))).isSome,(Ade E (mF (runM E f V n m)) (mO (runM E f V n m))).isNone)=(true,true,false,true,true):=by intro;kernel_rfl)
  (hr:clRL E g (runM E f V n m)=some ds:=by kernel_rfl)
  (hf:frzAll (clOf E g (mF (runM E f V n m)) (mO (runM E f V n m))).f1 (snapSrcs E g (clOf E g (mF (runM E f V n m)) (mO (runM E f V n m))).f1 (clOf E g (mF (runM E f V n m)) (mO (runM E f V n m))).x 0 (clOf E g (mF (runM E f V n m)) (mO (runM E f V n m))).agl)=some (clOf E g (mF (runM E f V n m)) (mO (runM E f V n m))).f1:=by kernel_rfl):Mh E f V Q m:=by
 obtain⟨r,h1,h2⟩:=h;have K:=K r;simp only[zH]at K;obtain⟨K1,K2,K3,K4,K5⟩:=K;obtain⟨z,hz⟩:=zA.1 K4;have hcold:coldD (E.eager f ((mO (runM E f V n m)).dst.getD 0)) (res r)=some (res r):=by
  unfold clE at K3;rw[K3];rfl
 obtain⟨N,hN⟩:=Bfu (V:=V) K2 hr (hP r h1) (Axd hf) hcold;refine runK n m ⟨Bmm K1 ⟨N,fun n' hn=>?_⟩ (k r h1 h2).out⟩;unfold effC;simp only[Option.isNone_iff_eq_none.1 K5,Ao8 K4,hz,hN n' hn,acP,apK,clFr]
end
end Go.Own
namespace Go.Own
open D
section
variable{E:Env}{f k i s:Nat}{V:List Nat}{F F0 F':Fr}{α:Type}{e e':Enc α}{l:List α}{x:D}
theorem Bfd{d:D}{mk:List D->D}(hmk:∀y,(mk [y,x]).elem 0=some [y,x]/\∀z,(mk [y,x]).setElem 0 [z,x]=some (mk [z,x]))(hx:x.ex1=false)(hx2:x.node1=false)(hd:d=mk [.own (l.map e),x])(hg:get F0 s=d)(hf:Fzn e id e')(h2:put0 F0 s (mk [.sl (l.map e'),x])=F')(hn:Afo F' s=true):chillC F0 s 2=F':=by
 subst hd;have h1:getAt F0 s [(0,0)]=some (.own (l.map e)):=by
  simp only[getAt,hg,D.getP,(hmk _).1];rfl
 have h3:setAt F0 s [(0,0)] (.sl (l.map e'))=some F':=by
  simp only[setAt,hg,D.setP,(hmk _).1,zD,(hmk _).2,zC,zB,h2]
 have h4:get F' s=mk [.sl (l.map e'),x]:=by rw[<-h2,Aqm]
 have h5:getAt F' s [(0,1)]=some x:=by
  simp only[getAt,h4,D.getP,(hmk _).1];rfl
 have e1:chillC F0 s 1=F':=by
  simp only[chillC,frzAt,h1,D.ex1,if_true,Ac9 hf,h3,zB];exact Amg (by simp) hn
 unfold chillC;rw[e1];simp only[frzAt,h5,hx,hx2,zE,if_false]
theorem Al9(hx:x.ex1=false)(hx2:x.node1=false)(h0:trim0 E f V k i F=F0)(hc:E.chill f k i=[(s,0)])(hg:get F0 s=.box [.own (l.map e),x])(hf:Fzn e id e')(h2:put0 F0 s (.box [.sl (l.map e'),x])=F')(hn:Afo F' s=true):trim E f V k i F=F':=by
 unfold trim;rw[hc,h0];simp only[chillAll,Ane,hg,List.length_cons,zG];exact Bfd (mk:=D.box) (fun y=>⟨rfl,fun z=>rfl⟩) hx hx2 rfl hg hf h2 hn
end
section
variable{α:Type}{e e':Enc α}{l:List α}{F:Fr}{s:Nat}
theorem Aud(hg:get F s=.own (l.map e))(he:∀a,∃d d' x,e a=[d,x]/\e' a=[d',x]/\d.ex1=true/\d.freeze=some d')(hn:Afo F s=true):∀n,n<=l.length->chillS F s 0 n=put0 F s (.own ((l.take n).map e'++(l.drop n).map e))
 |0,_=>by
  simp only[chillS,List.take_zero,List.map_nil,List.nil_append,List.drop_zero];rw[<-hg];have:∀F:Fr,(∃d,get F s=d/\d≠.undef)->put0 F s (get F s)=F:=by
   intro F
   induction F with
   |nil=>rintro⟨d,h,h2⟩;exact absurd h.symm h2
   |cons x F ih=>
    obtain⟨k,e⟩:=x;rintro⟨d,h,h2⟩;simp only[get]at h⊢;simp only[put0]
    split
    .rename_i hk;subst hk;rfl
    .rename_i hk;rw[if_neg hk]at h;rw[ih ⟨d,h,h2⟩]
  exact(this F ⟨_,hg,by simp⟩).symm
 |n+1,hn1=>by
  have ih:=Aud hg he hn n (by omega);simp only[chillS,ih];have hd:l.drop n=l[n]::l.drop (n+1):=List.drop_eq_getElem_cons (by omega);obtain⟨d,d',x,h1,h2,h3,h4⟩:=he l[n];have hlen:((l.take n).map e').length=n:=by simp;omega
  have hat:((l.take n).map e'++(l.drop n).map e)[n]?=some [d,x]:=by
   rw[List.getElem?_append_right (by omega),hlen,Nat.sub_self,hd,List.map_cons,h1];rfl
  have g1:getAt (put0 F s (.own ((l.take n).map e'++(l.drop n).map e))) s [(n,0)]=some d:=by
   simp only[getAt,Aqm,D.getP,D.elem,hat];rfl
  have hset:((l.take n).map e'++(l.drop n).map e).set n [d',x]=(l.take (n+1)).map e'++(l.drop (n+1)).map e:=by
   rw[List.set_append_right _ _ (by omega),hlen,Nat.sub_self,hd,List.map_cons,zC,List.take_add_one,List.getElem?_eq_getElem (by omega),Option.toList_some,List.map_append,List.append_assoc,<-h2];rfl
  have g2:setAt (put0 F s (.own ((l.take n).map e'++(l.drop n).map e))) s [(n,0)] d'=some (put0 F s (.own ((l.take (n+1)).map e'++(l.drop (n+1)).map e))):=by
   simp only[setAt,Aqm,D.setP,D.elem,hat,zD,D.setElem,zC,zB,Bdz,hset]
  simp only[frzAt,g1,h3,if_true,h4,g2,zB];exact Amg (by simp) (Az3 hn)
theorem Aze{E:Env}{f k i:Nat}{V:List Nat}{F0 F':Fr}(h0:trim0 E f V k i F=F0)(hc:E.chill f k i=[(s,0)])(hg:get F0 s=.own (l.map e))(he:∀a,∃d d' x,e a=[d,x]/\e' a=[d',x]/\d.ex1=true/\d.freeze=some d')(hn:Afo F0 s=true)(h2:put0 F0 s (.own (l.map e'))=F'):trim E f V k i F=F':=by
 unfold trim;rw[hc,h0];simp only[chillAll,Ane,hg,Nat.reduceEqDiff,if_false];rw[Aud hg he hn _ (by simp)];simpa using h2
end
section
variable{E:Env}{f:Nat}{call:Nat->List D->Option (D×List D)}{F:Fr}{o:Oper}{κ ν:Type}{ek:κ->Value}{ev:ν->D}{l:List (κ×ν)}{x:Operand}{t s:Nat}{ps:Path}
def Bd7(P:Program)(t:Nat):Bool:=match P.underlying t with
 |some (.map _ _)=>true
 |_=>false
theorem Ahn(ho:o.op=.call { callee:=.builtin .len,args:=#[x],argTypes:=#[t] })(hx:opd E F x=some (.alias s ps))(hg:getAt F s ps=some (eMap ek ev l))(ht:Bd7 E.P t=true):valC E f call F o=some (.lit (.int .i64 l.length)):=by
 have:lenD E F t (.alias s ps)=some (.lit (.int .i64 l.length)):=by
  unfold Bd7 at ht
  split at ht
  .rename_i h;simp only[lenD,h,hg,eMap,List.length_map]
  .cases ht
 unfold valC;simp only[ho,hx];exact this
end
section
variable{E:Env}{f:Nat}{V:List Nat}{Q:Ex->Fr->Prop}{m:Mc}{α ρ:Type}
theorem Bnc(n:Nat){g s hh:Nat}{ps:Path}{l:List α}{e e':Enc α}{P:ρ->Prop}{R:ρ->Prop}{res:ρ->D}{ds:List D}(h:∃r,P r/\R r)(hP:∀r,P r->Ret E g ds (res r) [])(hfz:Fzn e id e')
  (k:∀r,P r->R r->Mh E f V Q (mCl E g (runM E f V n m) [] (res r)))
  (k2:∀r,P r->R r->Mh E f V Q (mClV E g (runM E f V n m) s ps (.sl (l.map e')) (res r)))
  (K:(opM (runM E f V n m),clOK E g (mS (runM E f V n m)) (mO (runM E f V n m)) [],clE E f (runM E f V n m),Bds (clOf E g (mS (runM E f V n m)) (mO (runM E f V n m))).l,(setAt (clOf E g (mS (runM E f V n m)) (mO (runM E f V n m))).f1 s ps (.sl (l.map e'))).isSome)=(true,true,false,true,true):=by kernel_rfl)
  (hs:snapSrcs E g (clOf E g (mS (runM E f V n m)) (mO (runM E f V n m))).f1 (clOf E g (mS (runM E f V n m)) (mO (runM E f V n m))).x 0 (clOf E g (mS (runM E f V n m)) (mO (runM E f V n m))).agl=[.alias s ps,.fn hh []]:=by kernel_rfl)
  (hg:getAt (clOf E g (mS (runM E f V n m)) (mO (runM E f V n m))).f1 s ps=some (.own (l.map e)):=by kernel_rfl)
  (hr:clR E g (runM E f V n m)=some ds:=by kernel_rfl):Mh E f V Q m:=by
 obtain⟨r,h1,h2⟩:=h;simp only[zH]at K;obtain⟨K1,K2,K3,K4,K5⟩:=K;by_cases hb:((res r).flatR&&([]:List D).all flat)=true
 .refine runK n m (Alm K1 K2 hr (hP r h1) (by rw[if_pos hb]) ?_ (k r h1 h2));unfold clE at K3;rw[K3];rfl
 .obtain ⟨F1,hst⟩:=zA.1 K5;have hk:=k2 r h1 h2;unfold mClV at hk;rw[hst,Option.getD_some]at hk;refine runK n m (Bj2 K1 K2 hr (hP r h1) (Fz:=killB F1 s ps) (by
   rw[if_neg hb,hs]
   simp only[frzAll,frzD,frzs,frz1,frzAt,hg,D.ex1,if_true,Ac9 hfz l,hst,zB]) K4 K3 hk)
def rgK:Mc->Nat
 | .op id _ _ _ _ _=>id
 |_=>0
def rgS(V:List Nat):Mc->Fr
 | .op _ _ _ _ _ s=>norm V s.2
 |_=>[]
def rgN:Mc->Option (Code×List Kt)
 | .op _ ops _ ks j _=>match ops[j]? with
  |none=>Aed ks
  |some _=>none
 |_=>none
theorem mReg(n:Nat)(F':Fr)(hF:trim E f V 0 (rgK (runM E f V n m)) (rgS V (runM E f V n m))=F')(k:Mh E f V Q (.pt ((rgN (runM E f V n m)).getD (.ret,[])) F'))(K:(rgN (runM E f V n m)).isSome=true:=by kernel_rfl):Mh E f V Q m:=by
 refine runK n m ⟨Amh _ ?_⟩;generalize runM E f V n m=m' at hF k K;unfold rgN at k K
 split at k
 .simp only[rgK,rgS]at hF;simp only at k K
  split at k
  .rename_i hks;simp only[hks]at K;obtain⟨c,hc⟩:=zA.1 K;rw[hc]at k;simp only[Ai8,hks,hc,hF];exact k.out
  .rename_i hks;simp only[hks]at K;cases K
 .simp only at K;cases K
end
end Go.Own
