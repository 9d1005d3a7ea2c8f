/- An interpreter of function bodies, sound. No conditions. -/
import Derived.Orders
import Derived.Test.YtcbhcnkfefbddaaGreatDoorOwn13
import Derived.Test.YtcbhcnkfefbddaaGreatDoorOwn6
set_option linter.all false
open Option renaming map_eq_some_iff->aA,map_some->aM,bind_some->bB
open Nat renaming blt->aQ,zero_add->cu,le_trans->cx,le_mul_of_pos_right->cD,le_of_ble_eq_true->c_
open List renaming getElem?_eq_some_iff->a6,map_cons->ba,all_eq_true->bo,length_map->bL,getElem?_eq_getElem->cc,getElem?_take_of_lt->cz,append_nil->cA,getElem?_set_self->cT,map_congr_left->dn,getElem?_drop->du,flatMap_def->dR,cons_append->eW,nodup_cons->fx,map_append->fB
open Bool renaming false_eq_true->b3,and_self->b5,and_eq_true->eb
open ByteArray renaming mk->gj
namespace Go.aS
open D
section
variable{n:Nat}{R:Nat->Value}{M:Mem}{F aD:Fr}{G:bK}{H:dD}{a:Act}{w w0:World}{B:List Nat}
theorem cJ.trans{b1:Mem}{je:List Nat}{w1:World}(e:cN M B w0 b1 je w1)(h:cJ n R b1 je w1 aD a w):cJ n R M B w0 aD a w:=by
 obtain⟨M2,cr,I,aa⟩:=h;exact⟨M2,cr,I,e.trans aa⟩
theorem Inv.FB(h:Inv n R M F G H a w){t:Nat}(al:t<n){d:D}(ak:aS.get F t=d)(ah:d≠.undef):a.tmps[t]?=some (bg G t).val:=by
 rw[h.get]at ak;have cI:bg G t≠fP:=by intro aG;rw[aG]at ak;simp[fP,T.erase]at ak;exact ah ak.symm
 have:=h.bP t _ (tV cI)
 rwa [if_pos al]at this
theorem Kr(h:Inv n R M F G H a w){ops:Array Oper}{o:Oper}(dM:∀j b t,o.guard=some (j,b)->(ops[j]?).bind (·.dst)=some t->t<n){x:Bool}(hw:fV ops F o=some x):Region.wanted o (yielded ops a.tmps)=x:=by
 unfold fV at hw;unfold Region.wanted
 split at hw
 .rename_i ak;simp only[aE]at hw;subst hw;simp[ak]
 .rename_i j b ak;simp only[ak]
  split at hw
  .rename_i t al;have EH:=dM j b t ak al;have aw:yielded ops a.tmps j=(match a.tmps[t]? with|some (.bool b)=>some b|_=>none):=by
    unfold yielded;rw[al];rfl
   have gI:∀d,aS.get F t=d->d≠.undef->a.tmps[t]?=some (bg G t).val:=λd=>h.FB EH
   split at hw
   .rename_i iA n7;simp only[aE]at hw;subst hw;have av:=gI _ n7 (by simp);have e:=xN (d:=.lit (.bool iA)) (by rw[<-h.get];exact n7) rfl (by simp) (by simp);have cm:=h.iJ t;rw[e]at cm;have Oy:(bg G t).val=.bool iA:=by
     have:bu M (.lit (.bool iA)) (bg G t).val:=cm;simp only[bu]at this;exact this.1
    rw[aw,av,Oy];cases b<;>cases iA<;>rfl
   .rename_i az n7;simp only[aE]at hw;subst hw;have av:=gI _ n7 (by simp);rw[h.get]at n7;have:∃ts,bg G t=.bt ts:=by
     cases pN:bg G t with
     |bt ts=>exact⟨ts,rfl⟩
     |leaf d v=>
      have e6:=h.jq t;rw[pN]at n7 e6;simp only[T.erase]at n7;subst n7;simp[T.tidy]at e6
     |_=>rw[pN]at n7;simp[T.erase]at n7
    obtain⟨ts,e3⟩:=this;rw[aw,av,e3];rfl
   .rename_i v N5 n7;simp only[aE]at hw;subst hw;have av:=gI _ n7 (by simp);have e:=xN (d:=.lit v) (by rw[<-h.get];exact n7) rfl (by simp) (by simp);have cm:=h.iJ t;rw[e]at cm;have Oy:(bg G t).val=v:=by
     have:bu M (.lit v) (bg G t).val:=cm;simp only[bu]at this;exact this.1
    rw[aw,av,Oy];cases v<;>first|rfl|(exfalso;exact N5 _ rfl)
   .cases hw
  .rename_i al;simp only[aE]at hw;subst hw;have:yielded ops a.tmps j=none:=by unfold yielded;rw[al];rfl
   rw[this];rfl
def rn(n:Nat)(ops:Array Oper):Prop:=∀(i:Nat)(o:Oper),ops[i]?=some o->L0 n o
theorem rn.guard{ops:Array Oper}(h:rn n ops){o:Oper}:∀j b t,o.guard=some (j,b)->(ops[j]?).bind (·.dst)=some t->t<n:=λj b t _ al=>by
 simp only[Option.bind_eq_some_iff]at al;obtain⟨o',ajC,ah⟩:=al;exact(h j o' ajC).2 t ah
theorem Dl{E:Env}{f:Nat}{V:List Nat}{call:Nat->List D->Option (D×List D)}(cn:lL E call)(ef:Good E M){ops:Array Oper}(dM:rn n ops){Q:Exit->Act->World->Prop}:∀(l:List Nat){F:Fr}{a:Act}{w:World},cJ n R M B w0 F a w->fQ E f V call ops l F=some aD ->
  (∀cp w',cJ n R M B w0 aD cp w'->Q .normal cp w')->wpOps E.P ops Q l a w
 |[],F,a,w,h,aP,cl=>by
  simp only[fQ,aE]at aP;subst aP;exact cl _ _ h
 |i::l,F,a,w,h,aP,cl=>by
  simp only[fQ]at aP;rw[wpOps_cons];unfold wpOp;cases an:ops[i]? with
  |none=>simp only[an]at aP⊢;exact Dl cn ef dM l h aP cl
  |some o=>
   simp only[an]at aP⊢;obtain⟨b1,bQ,I,aT⟩:=h;cases hw:fV ops F o with
   |none=>simp[hw]at aP
   |some x=>
    rw[Kr I dM.guard hw];cases x with
    |true=>
     simp only[hw]at aP;cases ad:cV E f V call F o with
     |none=>simp[ad]at aP
     |some aX=>
      simp only[ad]at aP;simp only[if_true];exact .inl (Mb cn (ef.mono aT.iW) I (dM i o an) ad λcp w' af=>Dl cn ef dM l (af.trans aT) aP cl)
    |false=>
     simp only[hw]at aP;simp only[b3,if_false];exact Dl cn ef dM l ((vR I o.dst (dM i o an).2 (cN.refl b1 _ w)).trans aT) aP cl
theorem M8{O fc:Type}{l:List O}{f g:O->List fc}(h:∀x∈l,f x=g x):l.flatMap f=l.flatMap g:=by
 rw[dR,dR,dn h]
def qm(G:bK)(a:Act)(n:Nat)(R:Nat->Value)(s:Nat):T:=match eg G s with
 |some t=>t
 |none=>.leaf .undef (if s<n then a.tmps.getD s undef else R s)
theorem YY(G:bK)(a:Act)(n:Nat)(R:Nat->Value)(s:Nat):(qm G a n R s).blocks=(bg G s).blocks:=by
 unfold qm bg;cases eg G s<;>simp[fP,T.blocks]
theorem Zz(G:bK)(a:Act)(n:Nat)(R:Nat->Value)(s:Nat):(qm G a n R s).erase=(bg G s).erase:=by
 unfold qm bg;cases eg G s<;>simp[fP,T.erase]
theorem J1:∀(V:List Nat)(G:bK),V.Nodup->∃rest,(V.flatMap (λs=>(bg G s).blocks)++rest).Perm (a8 G)
 |[],G,_=>⟨a8 G,by simp⟩
 |s::V,G,dZ=>by
  obtain⟨r,dk,ea⟩:=Cp G s;have au:=ea fP;obtain⟨rest,lD⟩:=J1 V (dS G s fP) (fx.1 dZ).2;have he:V.flatMap (λs=>(bg G s).blocks)=V.flatMap (λbk=>(bg (dS G s fP) bk).blocks):=by
   refine M8 λbk ds=>?_;rw[sx G fP];rintro rfl;exact(fx.1 dZ).1 ds
  refine⟨rest,?_⟩;simp only[List.flatMap_cons,List.append_assoc];refine List.Perm.trans (List.Perm.append_left _ ?_) dk;rw[he];refine lD.trans (au.symm.trans ?_);simp[fP,T.blocks]
theorem ZY(g:Nat->T)(V:List Nat)(s:Nat):eg (V.map λs=>(s,g s)) s=if s∈V then some (g s)else none:=by
 induction V with
 |nil=>simp[eg]
 |cons x V aN=>
  simp only[ba,eg,List.mem_cons];by_cases h:x=s
  .subst h;simp
  .simp only[h,if_false,aN];by_cases ae:s∈V
   .simp [ae]
   .simp [ae,Ne.symm h]
theorem C9(h:Inv n R M F G [] a w){V:List Nat}(dZ:V.Nodup):∃bS,Inv n R M (norm V F) bS [] a w/\∀g∈keys (a8 bS),g∈keys (a8 G):=by
 let wL:bK:=V.map λs=>(s,qm G a n R s)
 have Ig:∀s,eg wL s=if s∈V then some (qm G a n R s)else none:=ZY _ V
 have aj:mU G wL (outside V):=by
  intro s p x U ao;have xb:∀b,outside V b s p=false->(bg wL s).bw p=some x:=λb ag=>by
   have ae:s∈V:=by simpa[outside]using ag
   have hf:=p5 U ao;have:bg wL s=bg G s:=by
    unfold bg;rw[Ig s,if_pos ae];simp only[qm,hf]
   rw[this];exact U
  exact⟨λag=>⟨x,xb _ ag,ao,rfl⟩,λag=>⟨x,xb _ ag,T.pR ao⟩⟩
 have iU:=QZ aj;have w_:a8 wL=V.flatMap λs=>(bg G s).blocks:=by
  simp only[a8,wL,List.flatMap_map];exact M8 λs _=>YY G a n R s
 obtain⟨rest,af⟩:=J1 V G dZ;have EC:∀s,(qm G a n R s).tidy/\fg M G (qm G a n R s)/\(if s<n then a.tmps[s]?=some (qm G a n R s).val else R s=(qm G a n R s).val):=λs=>by
  unfold qm;cases hf:eg G s with
  |some t=>exact⟨h.tidy s t hf,h.ok s t hf,h.bP s t hf⟩
  |none=>
   refine⟨by simp[T.tidy],by simp[fg,fm,aJ],?_⟩
   split
   .rename_i ae;have:s<a.tmps.size:=by rw[h.size];exact ae
    simp[T.val,ae,Array.getD_eq_getD_getElem?,Array.getElem?_eq_getElem this]
   .rename_i ae;simp[T.val,ae]
 refine⟨qj (outside V) wL,?_,?_⟩
 .constructor
  .rw [QR];simp only[norm,mm,wL,List.map_map,jM];refine dn λs _=>?_;simp only[Function.comp,Zz,h.get]
  .exact h.size
  .exact h.defers
  .intro s t hf;rw[zK,Ig]at hf
   split at hf
   .simp only[aM,aE]at hf;subst hf;rw[T.PX];exact(EC s).2.2
   .cases hf
  .intro s t hf;rw[zK,Ig]at hf
   split at hf
   .simp only[aM,aE]at hf;subst hf;exact T.PT _ _ (EC s).1
   .cases hf
  .intro s t hf;rw[zK,Ig]at hf
   split at hf
   .simp only[aM,aE]at hf;subst hf;exact Mz (Mem.le_refl M) iU (EC s).2.1
   .cases hf
  .rw [p4,w_,cA];have:=h.bd;rw[cA]at this;exact this.xG af
  .exact h.mem
 .intro g ak;rw[p4,w_]at ak;exact(af.map Prod.fst).mem_iff.1 (by rw[fB];exact List.mem_append_left _ ak)
theorem cJ.norm(h:cJ n R M B w0 F a w){V:List Nat}(dZ:V.Nodup):cJ n R M B w0 (norm V F) a w:=by
 obtain⟨b1,bQ,I,aT⟩:=h;obtain⟨cr,aa,a5⟩:=C9 I dZ;exact⟨b1,cr,aa,aT.weaken a5⟩
end
end Go.aS
namespace Go.aS
open D
theorem RO{F:Fr}{c:D}(h:Hj c=true):kb F c=some (c,F)/\c.dC=false:=by
 cases c<;>simp[Hj]at h<;>simp[kb,D.dC]
theorem Qh{F:Fr}{t:Nat}{cs:List D}(ak:aS.get F t=.agg cs)(ad:cs.all Hj=true):∀(k o:Nat),o+k<=cs.length->tL F t o k=some ((cs.drop o).take k,F)
 |0,o,_=>by simp[tL]
 |k+1,o,h=>by
  have an:o<cs.length:=by omega
  have af:=(RO (F:=F) (bo.1 ad _ (List.getElem_mem an))).1;simp only[tL,ak,cc an,af,Qh ak ad k (o+1) (by omega)];rw[List.drop_eq_getElem_cons an,List.take_succ_cons]
theorem F2{E:Env}{F:Fr}{x:Operand}{d:D}(h:ov E F x=some d):c9 E F x=some (d,F):=by
 cases x with
 |tmp t=>
  simp only[ov]at h;simp only[c9]
  split at h
  .rename_i v ak;simp only[aE]at h;subst h;simp[ak,e9]
  .rename_i v ak;simp only[aE]at h;subst h;simp[ak,e9]
  .rename_i v ak;simp only[aE]at h;subst h;simp[ak,e9]
  .rename_i f cs ak
   split at h
   .cases h
   .rename_i ag;simp only[aE]at h;subst h;simp only[ak,e9];rw[if_neg ag]
  .rename_i cs ak
   split at h
   .rename_i af;simp only[aE]at h;subst h;have hex:cs.any dC=false:=by
     rw[List.any_eq_false];intro c ad;have:=(RO (F:=F) (bo.1 af c ad)).2;simp[this]
    simp only[ak,e9,hex,b3,if_false,Qh ak af cs.length 0 (by omega)];simp
   .cases h
  .rename_i s ps ak
   split at h
   .rename_i es aC;simp only[aE]at h;subst h;simp[ak,e9,mh,aC,D.dC]
   .rename_i es aC;simp only[aE]at h;subst h;simp[ak,e9,mh,aC,D.dC]
   .cases h
  .cases h
 |const v=>
  simp only[ov]at h;simp only[c9]
  split at h
  .rename_i ad;simp only[aE]at h;subst h;simp[ad]
  .cases h
 |func f=>simp only[ov,aE]at h;subst h;rfl
 |global g=>simp[ov]at h
theorem JI{E:Env}{F:Fr}:∀{ps:List (Nat×Operand)}{az:List (Nat×D)},o8 E F ps=some az->iL E F ps=some (az,F)
 |[],az,h=>by simp only[o8,aE]at h;subst h;rfl
 |(i,x)::ps,az,h=>by
  simp only[o8]at h
  split at h
  .rename_i d m9 I aa;simp only[aE]at h;subst h;simp only[iL,F2 I,JI aa]
  .cases h
theorem YK{E:Env}{f n:Nat}(h:C1 E f n=true):∀i,i<n->E.mode f i=.snap:=λi hi=>by
 have:=bo.1 h i (List.mem_range.2 hi);simpa using this
theorem Qg{E:Env}{f:Nat}{F:Fr}:∀(bs:List Arg)(i:Nat),(∀k,k<bs.length->E.mode f (i+k)=.snap)->kE E f i F bs=some (bs.map λ_=>none,F)
 |[],_,_=>rfl
 |b::bs,i,h=>by
  have aO:E.mode f i=.snap:=h 0 (by simp);have aN:=Qg (F:=F) bs (i+1) (λk aj=>by have:=h (k+1) (by simpa using aj);rwa [show i+1+k=i+(k+1) by omega]);simp only[kE,aO,aN,ba]
theorem Qq{E:Env}{f:Nat}{F:Fr}{c:Operand}:∀(bs:List Arg)(i:Nat),(∀k,k<bs.length->E.mode f (i+k)=.snap)->hk E f F c i bs=some none
 |[],_,_=>rfl
 |b::bs,i,h=>by
  have aO:E.mode f i=.snap:=h 0 (by simp);have aN:=Qq (F:=F) (c:=c) bs (i+1) (λk aj=>by have:=h (k+1) (by simpa using aj);rwa [show i+1+k=i+(k+1) by omega]);simp only[hk,aO,aN]
theorem Tj{F:Fr}{d:D}(h:nk F d=true):mC F d=some F:=by
 cases d with
 |alias s ps=>
  simp only[nk]at h
  split at h
  .rename_i aC;simp[mC,kX,aC,D.dC,D.node1]
  .rename_i aC;simp[mC,kX,aC,D.dC,D.node1]
  .cases h
 |sub s ps i k=>
  simp only[nk]at h
  split at h
  .rename_i aC;simp[mC,kX,aC,D.dC,D.node1]
  .rename_i aC;simp[mC,kX,aC,D.dC,D.node1]
  .cases h
 |place=>simp[nk]at h
 |_=>rfl
theorem Ld{F:Fr}:∀{cs:List D},cs.all (nk F)=true->qD F cs=some F
 |[],_=>rfl
 |c::cs,h=>by
  simp only[List.all_cons,eb]at h;simp only[qD,Tj h.1,Ld h.2]
theorem Rv{F:Fr}:∀{az:List D},az.all (qT F)=true->lp F az=some F
 |[],_=>rfl
 |d::az,h=>by
  simp only[List.all_cons,eb]at h;have:uW F d=some F:=by
   have I:=h.1;have one:∀c,qT F c=nk F c->uW F c=mC F c->qT F c=true->uW F c=some F:=λc aT a5 aU=>by
    rw[a5];exact Tj (by rw[<-aT];exact aU)
   cases d with
   |agg cs=>exact Ld I
   |fn f cs=>exact Ld I
   |_=>exact one _ rfl rfl I
  simp only[lp,this,Rv h.2]
theorem Lq{E:Env}{f:Nat}{V:List Nat}{call:Nat->List D->Option (D×List D)}{F:Fr}{o:Oper}{d:D}(h:dJ E f call F o=some d):cV E f V call F o=some (fin F o.dst d):=by
 unfold dJ at h;unfold cV;cases au:o.op with
 |move x=>
  rw[au]at h;simp only at h⊢;unfold I3;cases x with
  |tmp t=>
   simp only at h⊢
   split at h
   .rename_i az ak
    split at h
    .rename_i NJ;simp only[aE]at h;subst h
     try simp only[ak]
     rw[if_pos NJ]
    .cases h
   .rename_i Ep
    split
    .rename_i az ak;exact absurd ak (Ep az)
    .rw [h];rfl
  |_=>simp only at h⊢;rw[h];rfl
 |assign x=>
  rw[au]at h;simp only at h⊢;cases x with
  |tmp t=>
   simp only at h
   split at h
   .rename_i v ak;simp only[aE]at h;subst h;simp[rD,ak,D.DT,c9,e9]
   .rename_i es ak;simp only[aE]at h;subst h;simp[rD,ak,D.DT,c9,e9]
   .cases h
  |const v=>
   simp only at h
   split at h
   .rename_i av;simp only[aE]at h;subst h;simp[rD,c9,av]
   .cases h
  |func g=>cases h
  |global g=>cases h
 |pick c x y=>
  rw[au]at h;simp only at h⊢;cases an:aZ E F c with
  |none=>simp[an]at h
  |some s0=>
   simp only[an]at h⊢
   split at h
   .rename_i NB;cases NB;simp[h]
   .cases h
 |alloc t=>
  rw[au]at h;simp only at h⊢;cases ag:DG E t with
  |some e=>simp only[ag,aE]at h⊢;rw[<-h]
  |none=>simp only[ag,aA]at h⊢;obtain⟨z,aG,rfl⟩:=h;exact⟨z,aG,rfl⟩
 |box t x=>
  rw[au]at h;simp only at h⊢;cases ak:ov E F x with
  |none=>simp[ak]at h
  |some bf=>
   simp only[ak]at h
   split at h
   .rename_i hl;simp only[aE]at h;subst h;simp[F2 ak,hl]
   .cases h
 |build t ps=>
  rw[au]at h;simp only at h⊢;cases aG:fC E.P t with
  |none=>simp[aG]at h
  |some z=>
   cases af:o8 E F ps.toList with
   |none=>simp[aG,af]at h
   |some az=>
    simp only[aG,af,JI af]at h⊢
    split at h
    .rename_i hu
     split at h
     .rename_i hi;simp only[aA]at h;obtain⟨cs,hf,rfl⟩:=h;simp[hu,hi,hf]
     .cases h
    .rename_i hu
     split at h
     .rename_i hi;simp only[aA]at h;obtain⟨cs,hf,rfl⟩:=h;simp only[hu,hi,if_true,hf,aM]
     .cases h
    .cases h
 |buildSlice t m ps=>
  rw[au]at h;simp only at h⊢;cases ae:eD E.P t with
  |none=>simp[ae]at h
  |some e=>
   simp only[ae]at h⊢;cases aG:fC E.P e with
   |none=>simp[aG]at h
   |some z=>
    cases af:o8 E F ps.toList with
    |none=>simp[aG,af]at h
    |some az=>
     simp only[aG,af,JI af]at h⊢
     split at h
     .rename_i hi;simp only[aA]at h;obtain⟨cs,hf,rfl⟩:=h;simp[hi,hf]
     .cases h
 |load t x=>rw[au]at h;simp only at h⊢;cases an:aZ E F x<;>simp[an]at h⊢;exact⟨d,h,rfl⟩
 |nilCheck x=>
  rw[au]at h;simp only at h⊢;cases an:aZ E F x with
  |none=>simp[an]at h
  |some rJ=>
   simp only[an]at h⊢
   split at h
   .rename_i s ps Ee;cases Ee;simp only
    split at h
    .rename_i ak;simp only[aE]at h;subst h;simp[ak]
    .rename_i ak;simp only[aE]at h;subst h;simp[ak]
    .cases h
   .rename_i Ee;cases Ee;simp only[aE]at h;subst h;rfl
   .rename_i Ee;cases Ee;simp only[aE]at h;subst h;rfl
   .cases h
 |binOp op t x y Ya=>
  rw[au]at h;simp only at h⊢;cases an:aZ E F x with
  |none=>simp[an]at h
  |some d1=>
   cases g9:aZ E F y with
   |none=>simp[an,g9]at h
   |some d2=>simp only[an,g9]at h⊢;rw[h];rfl
 |unOp op t x=>
  rw[au]at h;simp only at h⊢;cases an:aZ E F x with
  |none=>simp[an]at h
  |some d1=>
   cases d1 with
   |lit v=>
    simp only[an,aA]at h⊢;obtain⟨u,hu,rfl⟩:=h;exact⟨u,hu,rfl⟩
   |_=>simp[an]at h
 |convert s t x=>rw[au]at h;simp only at h⊢;cases an:aZ E F x<;>simp[an]at h⊢;exact⟨d,h,rfl⟩
 |makeFunc fn first ey=>
  rw[au]at h;cases fn with
  |func g=>
   simp only at h⊢
   split at h
   .rename_i he;simp only[he,if_true,aA]at h⊢;obtain⟨cs,ad,rfl⟩:=h;exact⟨cs,ad,rfl⟩
   .cases h
  |_=>cases h
 |makeMap t r=>
  rw[au]at h;cases r with
  |none=>simp only[aE]at h⊢;rw[h]
  |some r=>cases h
 |makeSlice t l c=>
  rw[au]at h;simp only at h⊢;cases qM:aZ E F l with
  |none=>simp[qM]at h
  |some dl=>
   cases rY:aZ E F c with
   |none=>simp[qM,rY]at h
   |some s0=>
    cases ae:eD E.P t with
    |none=>simp[qM,rY,ae]at h
    |some e=>
     simp only[qM,rY,ae]at h⊢
     split at h
     .rename_i k m z aj hm aG
      split at h
      .rename_i ad;simp only[aE]at h;subst h;simp[aj,hm,aG,ad]
      .cases h
     .cases h
 |slice t x lo hi mx=>
  rw[au]at h;cases mx with
  |some m=>cases h
  |none=>
   simp only at h⊢;cases an:aZ E F x with
   |none=>simp[an]at h
   |some rJ=>
    cases hl:iK E F lo with
    |none=>simp[an,hl]at h
    |some l=>
     cases aU:iK E F hi with
     |none=>simp[an,hl,aU]at h
     |some hi'=>simp only[an,hl,aU]at h⊢;rw[h];rfl
 |fieldAddr t x j=>
  rw[au]at h;simp only at h⊢;cases hf:n1 E.P t j with
  |none=>simp[hf]at h
  |some fd=>
   cases af:(aZ E F x).bind (gB F)with
   |none=>simp[hf,af]at h
   |some p=>
    cases p with
    |nj cs=>
     simp only[hf,af]at h⊢
     split at h
     .rename_i ae;simp only[aE]at h;subst h;simp[ae]
     .cases h
    |loc s ps i c=>
     simp only[hf,af]at h⊢
     split at h
     .rename_i ae;simp only[aE]at h;subst h;simp[ae]
     .cases h
 |field t x j=>
  rw[au]at h;simp only at h⊢;cases hf:n1 E.P t j with
  |none=>simp[hf]at h
  |some fd=>
   cases an:aZ E F x with
   |none=>simp[hf,an]at h
   |some rJ=>
    cases rJ with
    |agg cs=>simp only[hf,an]at h⊢;rw[h];rfl
    |_=>simp[hf,an]at h
 |indexAddr t x ix=>
  rw[au]at h;simp only at h⊢;cases an:aZ E F x with
  |none=>simp[an]at h
  |some d1=>
   cases g9:aZ E F ix with
   |none=>simp[an,g9]at h
   |some d2=>simp only[an,g9]at h⊢;rw[h];rfl
 |index t x ix=>
  rw[au]at h;simp only at h⊢;cases an:aZ E F x with
  |none=>simp[an]at h
  |some d1=>
   cases hi:(aZ E F ix).bind asNat with
   |none=>simp[an,hi]at h
   |some i=>
    simp only[an,hi]at h⊢
    split at h
    .rename_i s j ae aH;cases ae;cases aH;simp only
     split at h
     .rename_i hu;simp only[aA]at h;obtain⟨b,ag,rfl⟩:=h;simp[hu,ag]
     .cases h
    .rename_i cs j ae aH;cases ae;cases aH;simp only
     split at h
     .rename_i aC
      split at h
      .rename_i rT;simp only[aC,rT,if_true];rw[h];rfl
      .cases h
     .cases h
    .cases h
 |lookup t x k ok=>
  rw[au]at h;simp only at h⊢;cases an:aZ E F x with
  |none=>simp[an]at h
  |some d1=>
   cases g9:aZ E F k with
   |none=>simp[an,g9]at h
   |some d2=>simp only[an,g9]at h⊢;rw[h];rfl
 |extract x i=>
  rw[au]at h;cases x with
  |tmp t=>
   simp only at h⊢
   split at h
   .rename_i az ak;simp only[aA]at h;obtain⟨bf,ah,rfl⟩:=h;simp only[ak,ah,aM]
   .cases h
  |_=>cases h
 |call c=>
  rw[au]at h;simp only at h⊢;cases ad:c.callee with
  |invoke=>rw[ad]at h;cases h
  |value x=>
   rw[ad]at h;simp only at h⊢;cases an:aZ E F x with
   |none=>simp[an]at h
   |some rJ=>
    cases rJ with
    |fn g ey=>
     simp only[an]at h⊢
     split at h
     case isFalse=>cases h
     rename_i vh;have jK:=YK vh;have aO:∀k,k<(gF c.args.toList ey.length).length->E.mode g (0+k)=.snap:=λk aj=>by rw[cu];exact jK k aj
     cases af:gu E g F F x none 0 (gF c.args.toList ey.length) ((gF c.args.toList ey.length).map λ_=>none)with
     |none=>simp[af]at h
     |some az=>
      simp only[af]at h
      split at h
      .rename_i r db
       split at h
       .rename_i rQ;simp only[kn,Qg _ 0 aO,Qq _ 0 aO,pI,af,db,List.all_nil,Bool.and_true,lq];by_cases hf:r.ln=true
        .simp [hf,lq,h]
        .have A3:r.ln=false:=by simpa using hf
         simp only[A3,Bool.false_or]at rQ;simp[A3,Rv rQ,lq,h]
       .cases h
      .cases h
    |_=>simp[an]at h
  |builtin b=>
   rw[ad]at h;simp only at h⊢;cases b with
   |len=>
    simp only at h
    split at h
    .rename_i x t ts eS lu;rw[eS,lu];simp only[nU];cases an:aZ E F x with
     |none=>simp[an]at h
     |some d1=>simp only[an]at h⊢;rw[h];rfl
    .cases h
   |max=>
    simp only at h
    split at h
    .rename_i x y eS;rw[eS];simp only[nU];cases an:aZ E F x with
     |none=>simp[an]at h
     |some d1=>
      cases g9:aZ E F y with
      |none=>simp[an,g9]at h
      |some d2=>simp only[an,g9]at h⊢;rw[h];rfl
    .cases h
   |min=>
    simp only at h
    split at h
    .rename_i x y eS;rw[eS];simp only[nU];cases an:aZ E F x with
     |none=>simp[an]at h
     |some d1=>
      cases g9:aZ E F y with
      |none=>simp[an,g9]at h
      |some d2=>simp only[an,g9]at h⊢;rw[h];rfl
    .cases h
   |_=>cases h
 |_=>rw[au]at h;cases h
end Go.aS
namespace Go.aS
open D
section
variable{E:Env}{f:Nat}{V:List Nat}{F aD:Fr}{Q:dU->Fr->Prop}{body:Code}{p Xf:List Nat}{j:Nat}{s bk:oD}{o:Oper}{d:D}{call:fL}
def T1:Op->Bool
 | .move _=>true
 | .pick ..=>true
 | .load ..=>true
 | .binOp ..=>true
 | .unOp ..=>true
 | .convert ..=>true
 | .makeSlice ..=>true
 | .slice _ _ _ _ none=>true
 | .fieldAddr ..=>true
 | .field ..=>true
 | .indexAddr ..=>true
 | .index ..=>true
 | .lookup ..=>true
 | .extract (.tmp _) _=>true
 | .makeMap _ none=>true
 | .call c=>match c.callee with
  | .builtin .len=>true
  | .builtin .max=>true
  | .builtin .min=>true
  |_=>false
 |_=>false
theorem RN(_:T1 o.op=true)(h:dJ E f call F o=some d):cV E f V call F o=some (fin F o.dst d):=Lq h
def Aj:Option Bool->Bool
 |some true=>true
 |_=>false
theorem Gh{x:Option Bool}(h:Aj x=true):x=some true:=by
 cases x with
 |none=>cases h
 |some b=>cases b<;>simp_all [Aj]
def zY:Op->Option Operand
 | .call c=>match c.callee with
  | .value x=>some x
  |_=>none
 |_=>none
def ug:Op->List Operand
 | .call c=>c.args.toList
 |_=>[]
def xv(E:Env)(g:Nat)(F:Fr)(m7:List Arg):Fr:=match kE E g 0 F m7 with
 |some (_,aX)=>aX
 |none=>[]
def Et(F:Fr)(l:Option (Nat×Path)):Fr:=match pI F l with
 |some (_,aX)=>aX
 |none=>[]
def HZ(F:Fr)(l:Option (Nat×Path))(outs:List D):Fr:=(lq F l outs).getD []
theorem abj{x:Operand}{g i:Nat}{F bN:Fr}{l:Option D}{a:Arg}{m7:List Arg}{ms:List (Option D)}{d0 d:D}{az:List D}(hm:E.mode g i=.snap)(aC:j4 E F x a=some d0)(ae:eV bN d0=some d)(h:gu E g F bN x l (i+1) m7 ms=some az):
  gu E g F bN x l i (a::m7) (none::ms)=some (d::az):=by
 simp only[gu,hm,aC,bB,ae,q2,h]
def ec(E:Env)(f:Nat)(fd:Func)(n:Nat){ρ:Type}(res:ρ->D×List D)(J:ρ->Prop):dU->Fr->Prop
 | .exit _,_=>False
 |_,F=>∃r,ow E f fd n F=some (res r)/\J r
theorem g2{a b:Int}(h:(a==b)=true):a=b:=by simpa using h
theorem g1{a b:Int}(h:(a==b)=false):¬a=b:=by simpa using h
theorem g4{a b:Int}(h:(a != b)=true):¬a=b:=by simpa using h
theorem g3{a b:Int}(h:(a != b)=false):a=b:=by simpa using h
theorem aem{a b:Bool}(h:(a != b)=true):¬a=b:=by simpa using h
theorem ael{a b:Bool}(h:(a != b)=false):a=b:=by simpa using h
theorem Mq{a b:ByteArray}(h:(a.toList==b.toList)=true):a.toList=b.toList:=by simpa using h
theorem Mp{a b:ByteArray}(h:(a.toList==b.toList)=false):¬a.toList=b.toList:=by simpa using h
theorem agi{b:Bool}(h:(!b)=true):b=false:=by simpa using h
theorem agh{b:Bool}(h:(!b)=false):b=true:=by simpa using h
theorem iR{b:Bool}(h:b=false):¬b=true:=by simp[h]
end
end Go.aS
namespace Go.aS
open D
abbrev dE(O:Type):=O->List D
def lk(k:IntKind):dE Int:=λx=>[.lit (.int k x)]
def wX:dE Bool:=λb=>[.lit (.bool b)]
def dQ:dE ByteArray:=λb=>[.lit (.string b)]
def jG{O:Type}(e:dE O):dE (List O):=λl=>[.sl (l.map e)]
def dK{O:Type}(e:dE O):dE (List O):=λl=>[.own (l.map e)]
def a_{O:Type}(l:List O)(i:Int):Option O:=if 0<=i then l[i.toNat]? else none
def b7{O:Type}(l:List O)(i:Int)(a:O):List O:=l.set i.toNat a
def r9{O:Type}(l:List O)(i j:Int):List O:=(l.drop i.toNat).take (j.toNat-i.toNat)
theorem rp{a b:Nat}(h:aQ a b=true):a<b:=c_ h
theorem hd{O:Type}{l:List O}{i:Int}{a:O}(h:a_ l i=some a):0<=i/\l[i.toNat]?=some a:=by
 unfold a_ at h
 split at h
 .exact ⟨by assumption,h⟩
 .cases h
theorem wi{O:Type}{e:dE O}{l:List O}{n:Nat}{a:O}(h:l[n]?=some a):(l.map e)[n]?=some (e a):=by simp[h]
section
variable{E:Env}{f:Nat}{V:List Nat}{F aX bN:Fr}{o:Oper}{call:fL}{O fc:Type}{e:dE O}{l m:List O}{i:Int}{a b:O}{t u et k s n c:Nat}{ps:Path}{x ix y:Operand}{q:IntKind}{d:D}{ts:List Nat}
theorem vS{q:IntKind}{i:Int}(h:0<=i):asNat (.lit (.int q i))=some i.toNat:=by simp[asNat,asInt,h]
theorem Kq(an:o.op=.indexAddr t x ix)(U:aZ E F x=some (.sl (l.map e)))(n8:aZ E F ix=some (.lit (.int q i)))(al:eD E.P t=some et)(ae:aY E.P et=k)(h:a_ l i=some a)(aj:(e a).length=k):
  dJ E f call F o=some (.ref (e a)):=by
 obtain⟨aO,I⟩:=hd h;unfold dJ;simp only[an,U,n8,nm,vS aO,al,wi I,ae,aj,if_true]
theorem Y1(an:o.op=.indexAddr t x ix)(U:aZ E F x=some (.alias s ps))(ak:b6 F s ps=some (.sl (l.map e)))(n8:aZ E F ix=some (.lit (.int q i)))(al:eD E.P t=some et)(ae:aY E.P et=k)(h:a_ l i=some a)(aj:(e a).length=k):
  dJ E f call F o=some (.ref (e a)):=by
 obtain⟨aO,I⟩:=hd h;unfold dJ;simp only[an,U,n8,nm,vS aO,al,ak,wi I,ae,aj,if_true]
theorem zQ(an:o.op=.indexAddr t x ix)(U:aZ E F x=some (.alias s ps))(ak:b6 F s ps=some (.own (l.map e)))(n8:aZ E F ix=some (.lit (.int q i)))(al:eD E.P t=some et)(ae:aY E.P et=k)(h:a_ l i=some a)(aj:(e a).length=k):
  dJ E f call F o=some (.place s ps i.toNat 0):=by
 obtain⟨aO,I⟩:=hd h;unfold dJ;simp only[an,U,n8,nm,vS aO,al,ak,wi I,ae,aj,if_true]
theorem Y0(an:o.op=.indexAddr t x ix)(U:aZ E F x=some (.alias s ps)){cs:List D}(ak:b6 F s ps=some (.own ((l.map e).set i.toNat cs)))(n8:aZ E F ix=some (.lit (.int q i)))(al:eD E.P t=some et)(ae:aY E.P et=k)(h:a_ l i=some a)(aj:cs.length=k):
  dJ E f call F o=some (.place s ps i.toNat 0):=by
 obtain⟨aO,I⟩:=hd h;have aa:((l.map e).set i.toNat cs)[i.toNat]?=some cs:=by
  have:=(a6.1 I).1;rw[cT (by simpa using this)]
 unfold dJ;simp only[an,U,n8,nm,vS aO,al,ak,aa,ae,aj,if_true]
theorem Qw{off len:Nat}(an:o.op=.indexAddr t x ix)(U:aZ E F x=some (.sub s ps off len))(ak:b6 F s ps=some (.own (l.map e)))(n8:aZ E F ix=some (.lit (.int q i)))(al:eD E.P t=some et)(ae:aY E.P et=k)(hl:off+len<=l.length)(h:a_ ((l.drop off).take len) i=some a)(aj:(e a).length=k):
  dJ E f call F o=some (.place s ps (off+i.toNat) 0):=by
 obtain⟨aO,I⟩:=hd h;have hi:i.toNat<len:=by
  have:=(a6.1 I).1;simp at this;omega
 have aa:l[off+i.toNat]?=some a:=by
  rw[cz hi,du]at I;exact I
 unfold dJ;simp only[an,U,n8,nm,vS aO,al,ak,wi aa,ae,aj,if_true,if_pos hi,bL,hl,and_self]
theorem zG{off len:Nat}(an:o.op=.indexAddr t x ix)(U:aZ E F x=some (.sub s ps off len))(ak:b6 F s ps=some (.own (l.map e)))(n8:aZ E F ix=some (.lit (.int q i)))(al:eD E.P t=some et)(ae:aY E.P et=k)(hl:off+len<=l.length)(ag:0<=i/\i<len)(h:a_ l ((off:Int)+i)=some a)(aj:(e a).length=k):
  dJ E f call F o=some (.place s ps ((off:Int)+i).toNat 0):=by
 have aT:((off:Int)+i).toNat=off+i.toNat:=by omega
 rw[aT];refine Qw (l:=l) (a:=a) an U ak n8 al ae hl ?_ aj;obtain⟨aO,I⟩:=hd h;rw[aT]at I;unfold a_;rw[if_pos ag.1,cz (by omega),du];exact I
theorem zL{d:D}(an:o.op=.load t x)(U:aZ E F x=some (.place s ps n c))(ak:b6 F s ps=some (.own (l.map e)))(hu:(E.P.underlying t).isNone=false)(h:l[n]?=some a)
  (ah:(if c+aY E.P t<=(e a).length then se (h0 E.P t) (xK s ps n c (((e a).drop c).take (aY E.P t)))else none)=some d):dJ E f call F o=some d:=by
 unfold dJ;simp only[an,U,oa,hu,gB,ak,D.elem,wi h,ah,b3,if_false]
theorem GW(an:o.op=.call { callee:=.builtin .len,args:=#[x],argTypes:=#[t] })(U:aZ E F x=some d)(ah:gU F d=some (l.map e))(al:eD E.P t=some et):dJ E f call F o=some (.lit (.int .i64 l.length)):=by
 have hu:E.P.underlying t=some (.slice et):=by
  unfold eD at al
  split at al
  .rename_i h;simp only[aE]at al;rw[h,al]
  .cases al
 unfold dJ;simp only[an,U];have:vl E F t d=some (.lit (.int .i64 l.length)):=by
  unfold vl;rw[hu];cases d with
  |own es=>simp[gU]at ah
  |_=>simp only[ah,aM,bL]
 simp only[this]
theorem tY(ak:b6 F s ps=some (.own (l.map e))):gU F (.alias s ps)=some (l.map e):=by simp[gU,ak]
theorem Qo{off len:Nat}(ak:b6 F s ps=some (.own (l.map e)))(hl:off+len<=l.length):gU F (.sub s ps off len)=some (((l.drop off).take len).map e):=by simp[gU,ak,hl]
theorem C4{z:D}(an:o.op=.makeSlice t x y)(U:aZ E F x=some (.lit (.int q i)))(aw:aZ E F y=some (.lit (.int q i)))(al:eD E.P t=some et)(aG:fC E.P et=some z)(ad:z.cells=e a)(ae:aY E.P et=(e a).length)(af:aQ 0 (e a).length=true)(ag:j5 E.P et=k)(aj:aQ 0 k=true)(aO:0<=i)(hi:i*k<=281474976710656):
  dJ E f call F o=some (.own ((List.replicate i.toNat a).map e)):=by
 have aj:0<k:=rp aj;have af:0<(e a).length:=rp af;obtain⟨n,rfl⟩:=Int.eq_ofNat_of_zero_le aO;have I:n*k<=281474976710656:=by
  have:((n*k:Nat):Int)<=281474976710656:=by simpa using hi
  omega
 have aa:n<=9223372036854775807:=cx (cD n aj) (cx I (by decide));unfold dJ;simp only[an,U,aw,al,vS aO,aG,ag,ae,ad];simp[I,aa,af]
theorem tW(U:aZ E F x=some (.lit (.int q i)))(h:0<=i):iK E F (some x)=some (some i.toNat):=by simp[iK,U,vS h]
theorem xR:iK E F none=some none:=rfl
theorem TH(aj:∀x,(e x).length=k):wide k (l.map e)=true:=by
 cases l with
 |nil=>rfl
 |cons a l=>simp[wide,aj]
theorem Y3{lo hi:Option Operand}{lo' hi':Option Nat}(an:o.op=.slice t x lo hi none)(U:aZ E F x=some (.sl (l.map e)))(I:iK E F lo=some lo')(aa:iK E F hi=some hi')(al:eD E.P t=some et)(ae:aY E.P et=k)(aj:∀x,(e x).length=k)(af:aQ 0 k=true)
  (aB:lo'.getD 0<=hi'.getD l.length) (aW:hi'.getD l.length<=l.length):dJ E f call F o=some (.sl (((l.drop (lo'.getD 0)).take (hi'.getD l.length-lo'.getD 0)).map e)):=by
 have af:0<k:=rp af;unfold dJ;simp only[an,U,I,aa,oe,al,bL,ae,TH aj];simp[aB,aW,af]
theorem Cs{lo hi:Option Operand}{lo' hi':Option Nat}(an:o.op=.slice t x lo hi none)(U:aZ E F x=some (.alias s ps))(ak:gU F (.alias s ps)=some (l.map e))(I:iK E F lo=some lo')(aa:iK E F hi=some hi')(al:eD E.P t=some et)(ae:aY E.P et=k)(aj:∀x,(e x).length=k)(af:aQ 0 k=true)
  (aB:lo'.getD 0<=hi'.getD l.length) (aW:hi'.getD l.length<=l.length):dJ E f call F o=some (.sub s ps (lo'.getD 0) (hi'.getD l.length-lo'.getD 0)):=by
 have af:0<k:=rp af;unfold dJ;simp only[an,U,I,aa,oe,al,ak,bL,ae,TH aj];simp[aB,aW,af]
theorem CM{z:D}(an:o.op=.call { callee:=.builtin .append,args:=#[x,y],argTypes:=#[t,u] })(hu:nw E.P u=true)(al:eD E.P t=some et)(aG:fC E.P et=some z)(iF:z.cells.length=k)(U:c9 E F x=some (.own (l.map e),aX))(aw:jO E aX y=some (m.map e,bN))(ae:aY E.P et=k)(af:aQ 0 k=true)(ag:j5 E.P et=c)(pB:aQ 0 c=true)(aj:∀x,(e x).length=k)
  (hl:(l.length+m.length)*c<=140737488355328):cV E f V call F o=some (fin bN o.dst (.own ((l++m).map e))):=by
 have af:0<k:=rp af;have pB:0<c:=rp pB;have aa:l.length+m.length<=9223372036854775807:=cx (cD _ pB) (cx hl (by decide));unfold cV;simp only[an,nU,hu,if_true,rC,al,aG,U,aw,ag,ae,iF,bL,fB];have aB:∀(l:List O),((l.map e).all λc=>c.length==k)=true:=by intro l;simp[bo,aj]
 rw[if_pos ⟨hl,aa,trivial,af,aB l,aB m⟩]
theorem map_set{O:Type}{e:dE O}{l:List O}{n:Nat}{a:O}:(l.set n a).map e=(l.map e).set n (e a):=by simp[List.map_set]
theorem Lh(an:o.op=.store t x y)(aw:c9 E F y=some (d,aX))(U:aZ E aX x=some (.place s ps n c))(ak:b6 aX s ps=some (.own (l.map e)))(h:l[n]?=some a)(hi:(E.P.info? t).isSome=true)(ae:aY E.P t=k)(hl:d.cells.length=k)(aj:Nat.ble (c+k) (e a).length=true)
  (ag:(e a).take c++d.cells++(e a).drop (c+k)=e b) (eJ:setAt aX s ps (.own ((l.set n b).map e))=some bN):
  cV E f V call F o=some (fin (if(((e a).drop c).take k).any node1 then jM (rH s ps n c k) bN else bN) o.dst (.bt [])):=by
 have aj:c+k<=(e a).length:=c_ aj;unfold cV;simp only[an,hi,if_true,aw,U,xF,gB,ak,D.elem,wi h,ae,hl,aj,and_self,D.df,ag,<-map_set,eJ,aM]
theorem YH{cs:List D}(an:o.op=.store t x y)(aw:c9 E F y=some (d,aX))(U:aZ E aX x=some (.place s ps n 0))(ak:b6 aX s ps=some (.own ((l.map e).set n cs)))(h:l[n]?=some a)(hi:(E.P.info? t).isSome=true)(ae:aY E.P t=k)(hl:d.cells.length=k)(aj:cs.length=k)
  (ag:d.cells=e b) (eJ:setAt aX s ps (.own ((l.set n b).map e))=some bN):
  cV E f V call F o=some (fin (if cs.any node1 then jM (rH s ps n 0 k) bN else bN) o.dst (.bt [])):=by
 have I:n<l.length:=(a6.1 h).1;have aa:((l.map e).set n cs)[n]?=some cs:=by rw[cT (by simpa using I)]
 have aT:(cs.drop 0).take k=cs:=by rw[List.drop_zero,<-aj,List.take_length]
 have ez:cs.drop (0+k)=[]:=by rw[cu,<-aj,List.drop_length]
 unfold cV;simp only[an,hi,if_true,aw,U,xF,gB,ak,D.elem,aa,ae,hl,D.df,cu,aj,Nat.le_refl,and_self,List.take_zero,List.nil_append];rw[cu]at ez;rw[ez,aT,cA,ag,List.set_set,<-map_set,eJ];simp
theorem acb(ps B8:Path):∀(d:D),d.bw (ps++B8)=(d.bw ps).bind λd=>d.bw B8:=by
 induction ps with
 |nil=>intro d;rfl
 |cons x ps aN=>
  intro d;obtain⟨i,o⟩:=x;simp only[eW,D.bw];cases d.elem i with
  |none=>rfl
  |some cs=>
   simp only;cases cs[o]? with
   |none=>rfl
   |some c=>simp only[aN]
theorem sD(ak:b6 F s ps=some (.own (l.map e)))(h:l[n]?=some a)(ad:(e a)[c]?=some d):b6 F s (ps++[(n,c)])=some d:=by
 unfold b6 at ak⊢;rw[acb,ak];simp only[bB,D.bw,D.elem,wi h,ad]
theorem acM(x:D)(ps B8:Path):∀(d:D),d.cy (ps++B8) x=((d.bw ps).bind λc=>c.cy B8 x).bind λc'=>d.cy ps c':=by
 induction ps with
 |nil=>intro d;simp[D.bw,D.cy]
 |cons y ps aN=>
  intro d;obtain⟨i,o⟩:=y;simp only[eW,D.bw,D.cy];cases d.elem i with
  |none=>rfl
  |some cs=>
   simp only;cases cs[o]? with
   |none=>rfl
   |some c=>
    simp only[aN];cases(c.bw ps).bind λc=>c.cy B8 x with
    |none=>rfl
    |some c'=>rfl
theorem TE{bf:D}(ak:b6 F s ps=some (.own (l.map e)))(h:l[n]?=some a)(ad:aQ c (e a).length=true)(eJ:setAt F s ps (.own ((l.map e).set n ((e a).set c bf)))=some bN):setAt F s (ps++[(n,c)]) bf=some bN:=by
 have ad:c<(e a).length:=rp ad;unfold setAt at eJ⊢;unfold b6 at ak;rw[acM,ak];simp only[bB,D.cy,D.elem,wi h];rw[cc ad];simpa only[D.df,bB]using eJ
theorem aed{d:D}{t:Nat}(U:get F t=.alias s (ps++[(n,c)]))(ak:b6 F s ps=some (.own (l.map e)))(h:l[n]?=some a)(ad:(e a)[c]?=some d)(he:d.dC=true)(eJ:setAt F s ps (.own ((l.map e).set n ((e a).set c .undef)))=some bN):
  c9 E F (.tmp t)=some (d,kill bN s (ps++[(n,c)])):=by
 have db:aQ c (e a).length=true:=Nat.ble_eq_true_of_le (a6.1 ad).1;simp only[c9,U,e9,mh,sD ak h ad,he,if_true,TE ak h db eJ]
def m0(E:Env)(F:Fr)(y:Operand):Fr:=match c9 E F y with
 |some (_,aX)=>aX
 |none=>[]
def Bz(E:Env)(F:Fr)(y:Operand):Fr:=match jO E F y with
 |some (_,aX)=>aX
 |none=>[]
def PI(F:Fr)(s:Nat)(ps:Path)(d:D):Fr:=(setAt F s ps d).getD []
theorem Db{d:D}(h:(setAt F s ps d).isSome=true):setAt F s ps d=some (PI F s ps d):=by
 obtain⟨aD,h⟩:=Option.isSome_iff_exists.1 h;rw[h,PI,h];rfl
theorem U2{z:D}(an:o.op=.call { callee:=.builtin .append,args:=#[x,y],argTypes:=#[t,u] })(hu:nw E.P u=true)(al:eD E.P t=some et)(aG:fC E.P et=some z)(iF:z.cells.length=k)(U:c9 E F x=some (.own (l.map e),m0 E F x))(aw:jO E (m0 E F x) y=some (m.map e,m0 E F x))(ae:aY E.P et=k)(af:aQ 0 k=true)(ag:j5 E.P et=c)(pB:aQ 0 c=true)(aj:∀x,(e x).length=k)
  (hl:(l.length+m.length)*c<=140737488355328):cV E f V call F o=some (fin (m0 E F x) o.dst (.own ((l++m).map e))):=
 CM an hu al aG iF U aw ae af ag pB aj hl
theorem U1{z:D}(an:o.op=.call { callee:=.builtin .append,args:=#[x,y],argTypes:=#[t,u] })(hu:nw E.P u=true)(al:eD E.P t=some et)(aG:fC E.P et=some z)(iF:z.cells.length=k)(U:c9 E F x=some (.own (l.map e),m0 E F x))(aw:jO E (m0 E F x) y=some (m.map e,Bz E (m0 E F x) y))(ae:aY E.P et=k)(af:aQ 0 k=true)(ag:j5 E.P et=c)(pB:aQ 0 c=true)(aj:∀x,(e x).length=k)
  (hl:(l.length+m.length)*c<=140737488355328):cV E f V call F o=some (fin (Bz E (m0 E F x) y) o.dst (.own ((l++m).map e))):=
 CM an hu al aG iF U aw ae af ag pB aj hl
theorem MJ{z:D}(an:o.op=.call { callee:=.builtin .append,args:=#[x,y],argTypes:=#[t,u] })(hu:nw E.P u=true)(al:eD E.P t=some et)(aG:fC E.P et=some z)(iF:z.cells.length=k)(U:c9 E F x=some (.own (l.map e),aX))(aw:jO E aX y=some (m.map e,Bz E aX y))(ae:aY E.P et=k)(af:aQ 0 k=true)(ag:j5 E.P et=c)(pB:aQ 0 c=true)(aj:∀x,(e x).length=k)
  (hl:(l.length+m.length)*c<=140737488355328):cV E f V call F o=some (fin (Bz E aX y) o.dst (.own ((l++m).map e))):=
 CM an hu al aG iF U aw ae af ag pB aj hl
theorem afU(an:o.op=.store t x y)(aw:c9 E F y=some (d,m0 E F y))(U:aZ E (m0 E F y) x=some (.place s ps n c))(ak:b6 (m0 E F y) s ps=some (.own (l.map e)))(h:l[n]?=some a)(hi:(E.P.info? t).isSome=true)(ae:aY E.P t=k)(hl:d.cells.length=k)(aj:Nat.ble (c+k) (e a).length=true)
  (ag:(e a).take c++d.cells++(e a).drop (c+k)=e b) (eJ:setAt (m0 E F y) s ps (.own ((l.set n b).map e))=some bN):
  cV E f V call F o=some (fin (if(((e a).drop c).take k).any node1 then jM (rH s ps n c k) bN else bN) o.dst (.bt [])):=Lh an aw U ak h hi ae hl aj ag eJ
theorem afV{cs:List D}(an:o.op=.store t x y)(aw:c9 E F y=some (d,m0 E F y))(U:aZ E (m0 E F y) x=some (.place s ps n 0))(ak:b6 (m0 E F y) s ps=some (.own ((l.map e).set n cs)))(h:l[n]?=some a)(hi:(E.P.info? t).isSome=true)(ae:aY E.P t=k)(hl:d.cells.length=k)(aj:cs.length=k)
  (ag:d.cells=e b) (eJ:setAt (m0 E F y) s ps (.own ((l.set n b).map e))=some bN):
  cV E f V call F o=some (fin (if cs.any node1 then jM (rH s ps n 0 k) bN else bN) o.dst (.bt [])):=YH an aw U ak h hi ae hl aj ag eJ
def mw{O fc:Type}(e:dE O)(g:O->fc)(e':dE fc):Prop:=∀x,hA (e x)=some (e' (g x))
theorem QD{e:dE O}{g:O->fc}{e':dE fc}(h:mw e g e'):∀(l:List O),mB (l.map e)=some ((l.map g).map e')
 |[]=>rfl
 |a::l=>by simp only[ba,mB,h a,QD h l]
theorem o9{e:dE O}{e':dE O}(h:mw e id e')(l:List O):(D.own (l.map e)).freeze=some (.sl (l.map e')):=by
 simp only[D.freeze,QD h,aM,List.map_id]
theorem mw.E5{e e':dE O}(h:mw e id e'):mw (dK e) id (jG e'):=λl=>by
 simp only[dK,hA,o9 h l,jG,id]
theorem qb{e e':dE O}(h:mw e id e')(ak:b6 F s ps=some (.own (l.map e))):eV F (.alias s ps)=some (.sl (l.map e')):=by
 simp only[eV,fu,kW,ak,o9 h]
def uB{O:Type}(e:dE O):Prop:=∀x,lV (e x)=true
theorem Rs{e:dE O}(h:uB e):∀(l:List O),AR (l.map e)=true
 |[]=>rfl
 |a::l=>by simp only[ba,AR,h a,Rs h l,b5]
theorem g0{e:dE O}(h:uB e):(D.own (l.map e)).flat=true:=by simp only[D.flat,Rs h]
theorem uB.E5{e:dE O}(h:uB e):uB (dK e):=λl=>by simp only[dK,lV,g0 h,b5]
def wY{gE h2:Type}(gT:gE->Value)(ev:h2->D)(l:List (gE×h2)):D:=.map (l.map λx=>(gT x.1,ev x.2))
def mb{gE h2:Type}[DecidableEq gE](k:gE):List (gE×h2)->Option h2
 |[]=>none
 |(k',v)::r=>if k=k' then some v else mb k r
def tx{gE h2:Type}[DecidableEq gE](k:gE)(v:h2):List (gE×h2)->List (gE×h2)
 |[]=>[(k,v)]
 |(k',gN)::r=>if k=k' then(k',v)::r else(k',gN)::tx k v r
section maps
variable{gE h2:Type}[DecidableEq gE]{gT:gE->Value}{ev:h2->D}
theorem Ty(ag:∀a b,k1 (gT a) (gT b)=decide (a=b))(k:gE):∀(l:List (gE×h2)),look (gT k) (l.map λx=>(gT x.1,ev x.2))=(mb k l).map ev
 |[]=>rfl
 |(k',v)::r=>by
  simp only[ba,look,ag,mb,decide_eq_true_eq]
  split
  .rfl
  .exact Ty ag k r
theorem T8(ag:∀a b,k1 (gT a) (gT b)=decide (a=b))(k:gE)(v:h2):∀(l:List (gE×h2)),lH (gT k) (ev v) (l.map λx=>(gT x.1,ev x.2))=(tx k v l).map λx=>(gT x.1,ev x.2)
 |[]=>rfl
 |(k',gN)::r=>by
  simp only[ba,lH,ag,tx,decide_eq_true_eq]
  split
  .rfl
  .simp only[ba,T8 ag k v r]
omit [DecidableEq gE] in
theorem Sv{P:Program}{kt:Nat}(aj:∀a,hO P kt (gT a)=true)(l:List (gE×h2)):Bq P kt (l.map λx=>(gT x.1,ev x.2))=true:=by
 simp[Bq,bo,aj]
variable{l:List (gE×h2)}{kv:gE}{v:h2}{kt FG:Nat}{z kd:D}{kx vx mx:Operand}{v0:h2}
theorem Y2(ag:∀a b,k1 (gT a) (gT b)=decide (a=b))(aj:∀a,hO E.P kt (gT a)=true)(an:o.op=.lookup t x kx true)(U:aZ E F x=some (.alias s ps))(ak:b6 F s ps=some (wY gT ev l))(NY:aZ E F kx=some kd)(NV:keyOf kd=some (gT kv))(al:Bx E.P t=some (kt,FG))(aG:fC E.P FG=some (ev v0))(aks:(ev v0).DT=false):
  dJ E f call F o=some (.bt [ev ((mb kv l).getD v0),.lit (.bool (mb kv l).isSome)]):=by
 unfold dJ;simp only[an,U,NY,xm,al,NV,ak,wY,aG,aj,Sv aj,Ty ag,b5,if_true,aks];cases mb kv l<;>rfl
theorem YU(ag:∀a b,k1 (gT a) (gT b)=decide (a=b))(aj:∀a,hO E.P kt (gT a)=true)(an:o.op=.mapUpdate t mx kx vx)(U:aZ E F mx=some (.alias s ps))(ak:b6 F s ps=some (wY gT ev l))(NY:aZ E F kx=some kd)(NV:keyOf kd=some (gT kv))(al:Bx E.P t=some (kt,FG))(av:aZ E F vx=some d)(ae:eV F d=some (ev v))(hf:(ev v).flat=true)(eJ:setAt F s ps (wY gT ev (tx kv v l))=some aX):
  cV E f V call F o=some (fin aX o.dst (.bt [])):=by
 unfold cV;simp only[an,E0,al,U,NY,av,ak,wY,NV,ae,hf,aj,Sv aj,T8 ag,b5,if_true];simp only[wY]at eJ;rw[eJ];rfl
end maps
theorem Up(a b:ByteArray):k1 (Value.string a) (Value.string b)=decide (a=b):=by
 obtain⟨a⟩:=a;obtain⟨b⟩:=b;show(a==b)=_;by_cases h:a=b
 .subst h;simp
 .have:¬gj a=gj b:=λaa=>h (ByteArray.mk.inj aa);simp[h]
def Mj{gE h2:Type}[DecidableEq gE](k:gE)(l:List (gE×h2))(z:h2):h2:=(mb k l).getD z
def O1{gE h2:Type}[DecidableEq gE](k:gE)(l:List (gE×h2)):Bool:=(mb k l).isSome
def dW(k:IntKind)(a b:Int):Int:=k.wrap (BitVec.ofInt k.bits a &&& BitVec.ofInt k.bits b).toNat
def eZ(k:IntKind)(a b:Int):Int:=k.wrap (BitVec.ofInt k.bits a ||| BitVec.ofInt k.bits b).toNat
def jF(k:IntKind)(a b:Int):Int:=k.wrap (BitVec.ofInt k.bits a ^^^ BitVec.ofInt k.bits b).toNat
def fK(k:IntKind)(a b:Int):Int:=k.wrap (BitVec.ofInt k.bits a &&& ~~~ BitVec.ofInt k.bits b).toNat
def jo(k:IntKind)(a b:Int):Int:=k.wrap (a*2^(min b.toNat k.bits))
def ft(k:IntKind)(a b:Int):Int:=a.fdiv (2^(min b.toNat k.bits))
def imax(a b:Int):Int:=if b > a then b else a
def tt(a b:Int):Int:=if b<a then b else a
def qi(b:ByteArray):Int:=b.size
def eN(b:UInt8):Int:=b.toNat
def fj:dE Unit:=λ_=>[]
theorem GK{b:Bool}{e e':dE O}{l:List O}(ag:b=true)(h:mw e id e'):lS b (.own (l.map e))=some (.sl (l.map e')):=by
 subst ag;exact o9 h l
theorem T9{op:BinOp}{Jo ty:Nat}{d1 d2:D}(an:o.op=.binOp op Jo x y ty)(U:aZ E F x=some d1)(aw:aZ E F y=some d2)(h:qt E op Jo d1 d2=some d):dJ E f call F o=some d:=by
 unfold dJ;simp only[an,U,aw,h]
theorem Ad{q':IntKind}{i1 i2:Int}(h:0<=i2):qt E .shl t (.lit (.int q i1)) (.lit (.int q' i2))=some (.lit (.int q (q.wrap (i1*2^(min i2.toNat q.bits))))):=by
 have:¬i2<0:=by omega
 simp[qt,qu,this]
theorem p_{q':IntKind}{i1 i2:Int}(h:0<=i2):qt E .shr t (.lit (.int q i1)) (.lit (.int q' i2))=some (.lit (.int q (i1.fdiv (2^(min i2.toNat q.bits))))):=by
 have:¬i2<0:=by omega
 simp[qt,qu,this]
theorem ac6{s1 s2:ByteArray}(h:s1.size+s2.size<=9223372036854775807):qt E .add t (.lit (.string s1)) (.lit (.string s2))=some (.lit (.string (s1++s2))):=by
 simp[qt,qu,h]
theorem abC{s1:ByteArray}{cb:UInt8}(an:o.op=.index t x ix)(U:aZ E F x=some (.lit (.string s1)))(n8:aZ E F ix=some (.lit (.int q i)))(al:E.P.underlying t=some .string)(aO:0<=i)(h:s1[i.toNat]?=some cb):dJ E f call F o=some (.lit (.int .u8 cb.toNat)):=by
 unfold dJ;simp only[an,U,n8,bB,vS aO,al,h,aM]
end
abbrev bc:dE Int:=lk .i64
abbrev aK:dE ay:=jG bc
abbrev bM:dE Int:=lk .u32
theorem bD{Q:Sort _}{P:Q->Prop}(r:Q)(h:P r):P r:=h
end Go.aS
