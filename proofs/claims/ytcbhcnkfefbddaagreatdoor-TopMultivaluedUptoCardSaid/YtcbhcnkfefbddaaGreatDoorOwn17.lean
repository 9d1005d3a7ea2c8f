/- An interpreter of function bodies, sound. No conditions. -/
import Derived.LoopN
import Derived.Test.YtcbhcnkfefbddaaGreatDoorOwn15
import Derived.Test.YtcbhcnkfefbddaaGreatDoorOwn4
set_option linter.all false
open Prod.mk renaming injEq->aA
open Option renaming map_eq_some_iff->aM,getD_some->cT
open List renaming getElem?_eq_some_iff->aQ,map_cons->ba,perm_append_comm_assoc->bB,mem_cons->bL,append_assoc->b3,getElem?_cons_zero->b5,mem_cons_of_mem->cc,mem_of_getElem?->cu,map_congr_left->cz,mem_cons_self->cx,flatMap_cons->cD,append_nil->dn
open Bool renaming false_eq_true->a6,and_eq_true->cA
open List.Perm renaming append_left->bo
open Array renaming replicate->c_
namespace Go.aS
open D
def o_(n:Nat):Code->Prop
 | .region _ ops _=>rn n ops
 | .seq a b=>o_ n a/\o_ n b
 | .cond x a b=>Fits n x/\o_ n a/\o_ n b
 | .block _ b=>o_ n b
 | .loop b=>o_ n b
 |_=>True
def G4:dU->Exit
 | .normal=>.normal
 | .exit id=>.exit id
 | .ret=>.ret
section
variable{n:Nat}{R:Nat->Value}{M:Mem}{F aD:Fr}{G:bK}{H:dD}{a:Act}{w w0:World}{B:List Nat}
theorem cJ.vH{E:Env}{f k i:Nat}{V:List Nat}(h:cJ n R M B w0 F a w)(dZ:V.Nodup):cJ n R M B w0 (vH E f V k i F) a w:=by
 unfold Go.aS.vH
 split
 .exact h
 .exact h.norm (dZ.sublist List.filter_sublist)
theorem cJ.HX(h:cJ n R M B w0 F a w){s:Nat}{ps:Path}(hf:kX F s ps=some aD):cJ n R M B w0 aD a w:=by
 obtain⟨b1,bQ,I,aT⟩:=h;obtain⟨M2,cr,aa,f2,_⟩:=Lc I hf;refine⟨M2,cr,aa,aT.trans ⟨rfl,rfl,rfl,Nat.le_refl _,λ_ _ _=>rfl,f2.le,λg o ak=>?_,λg ak=>.inl (f2.sub g ak)⟩⟩;rcases f2.new g o ak with h|h
 .exact .inl h
 .exact .inr (.inl h)
theorem cJ.qx(h:cJ n R M B w0 F a w){s c:Nat}:∀k,cJ n R M B w0 (qx F s c k) a w
 |0=>h
 |k+1=>by
  simp only[Go.aS.qx]
  split
  .rename_i aX I;exact(cJ.qx h k).HX I
  .exact cJ.qx h k
theorem cJ.nW(h:cJ n R M B w0 F a w){s:Nat}:∀k,cJ n R M B w0 (nW F s k) a w
 |0=>h
 |k+1=>by
  simp only[Go.aS.nW]
  split
  .rename_i aX I;exact(cJ.nW h k).HX I
  .exact cJ.nW h k
theorem cJ.qw(h:cJ n R M B w0 F a w){s c:Nat}:∀k,cJ n R M B w0 (qw F s c k) a w
 |0=>h
 |k+1=>by
  simp only[Go.aS.qw]
  split
  .rename_i aX I;exact(cJ.qw h k).HX I
  .exact cJ.qw h k
theorem cJ.sY:∀(l:List (Nat×Nat)){F:Fr},cJ n R M B w0 F a w->cJ n R M B w0 (sY l F) a w
 |[],_,h=>h
 |(s,c)::r,F,h=>by
  refine cJ.sY r ?_;unfold ya
  split
  .split
   .cases hf:kX F s []with
    |none=>exact h
    |some aD=>exact h.HX hf
   .exact h.qx _
  .exact h.nW _
  .split
   .exact h.qw _
   .exact h.nW _
  .exact h
theorem cJ.trim{E:Env}{f k i:Nat}{V:List Nat}(h:cJ n R M B w0 F a w)(dZ:V.Nodup):cJ n R M B w0 (trim E f V k i F) a w:=cJ.sY _ (h.vH dZ)
theorem pa{E:Env}{f:Nat}{V:List Nat}{call:Nat->List D->Option (D×List D)}(cn:lL E call)(ef:Good E M)(hm:E.P.follows .mixedOrders=true)(dZ:V.Nodup){N:Nat}:
  ∀(c:Code){F aD:Fr}{a:Act}{w:World}{ex:dU}{Q:Exit->Act->World->Prop},o_ n c->cJ n R M B w0 F a w->eu E f V call N c F=some (ex,aD)->(∀cp w',cJ n R M B w0 aD cp w'->Q (G4 ex) cp w')->c.wp E.P Q a w
 | .skip,F,aD,a,w,ex,Q,_,h,U,cl=>by
  simp only[eu,aE,aA]at U;obtain⟨rfl,rfl⟩:=U;exact wp_skip (cl _ _ h)
 | .exit id,F,aD,a,w,ex,Q,_,h,U,cl=>by
  simp only[eu,aE,aA]at U;obtain⟨rfl,rfl⟩:=U;exact wp_exit (cl _ _ (h.trim dZ))
 | .ret,F,aD,a,w,ex,Q,_,h,U,cl=>by
  simp only[eu,aE,aA]at U;obtain⟨rfl,rfl⟩:=U;exact wp_ret (cl _ _ h)
 | .region id ops draw,F,aD,a,w,ex,Q,hf,h,U,cl=>by
  simp only[eu,aM,aA]at U;obtain⟨aX,hr,rfl,rfl⟩:=U;unfold k8 at hr;cases draw with
  |true=>
   simp only[if_true]at hr
   split at hr
   .rename_i ad;simp only[cA]at ad;simp only[aM]at hr;obtain⟨bN,ah,rfl⟩:=hr;exact QI (λh=>GB (λ_ _ _ h=>by cases h) h) cn ef hm hf h ad.1 ah λcp w' af=>cl _ _ ((af.norm dZ).trim dZ)
   .cases hr
  |false=>
   simp only[a6,if_false,aM]at hr;obtain⟨bN,ah,rfl⟩:=hr;exact wp_region (Dl cn ef hf _ h ah λcp w' af=>cl _ _ ((af.norm dZ).trim dZ))
 | .seq x y,F,aD,a,w,ex,Q,hf,h,U,cl=>by
  simp only[eu]at U;refine wp_seq ?_;cases hr:eu E f V call N x F with
  |none=>simp[hr]at U
  |some q=>
   obtain⟨aT,aX⟩:=q;cases aT with
   |normal=>
    simp only[hr]at U;exact pa cn ef hm dZ x hf.1 h hr λcp w' af=>pa cn ef hm dZ y hf.2 af U cl
   |exit id=>
    simp only[hr,aE,aA]at U;obtain⟨rfl,rfl⟩:=U;exact pa cn ef hm dZ x hf.1 h hr λcp w' af=>cl _ _ af
   |ret=>
    simp only[hr,aE,aA]at U;obtain⟨rfl,rfl⟩:=U;exact pa cn ef hm dZ x hf.1 h hr λcp w' af=>cl _ _ af
 | .cond x cF ck,F,aD,a,w,ex,Q,hf,h,U,cl=>by
  simp only[eu]at U
  split at U
  .rename_i t an;obtain⟨b1,bQ,I,aT⟩:=h;have ag:=jd (I.aZ hf.1 an);refine wp_cond ag ?_;cases t with
   |true=>simp only[if_true]at U⊢;exact pa cn ef hm dZ cF hf.2.1 (cJ.trim ⟨b1,bQ,I,aT⟩ dZ) U cl
   |false=>simp only[a6,if_false]at U⊢;exact pa cn ef hm dZ ck hf.2.2 (cJ.trim ⟨b1,bQ,I,aT⟩ dZ) U cl
  .cases U
 | .block id b,F,aD,a,w,ex,Q,hf,h,U,cl=>by
  simp only[eu]at U;refine wp_block ?_;cases hr:eu E f V call N b F with
  |none=>simp[hr]at U
  |some q=>
   obtain⟨aT,aX⟩:=q;cases aT with
   |normal=>
    simp only[hr,aE,aA]at U;obtain⟨rfl,rfl⟩:=U;exact pa cn ef hm dZ b hf h hr λcp w' af=>cl _ _ af
   |ret=>
    simp only[hr,aE,aA]at U;obtain⟨rfl,rfl⟩:=U;exact pa cn ef hm dZ b hf h hr λcp w' af=>cl _ _ af
   |exit i=>
    simp only[hr]at U;refine pa cn ef hm dZ b hf h hr λcp w' af=>?_;show(if i=id then Q .normal cp w' else Q (.exit i) cp w')
    split at U
    .rename_i hi;simp only[aE,aA]at U;obtain⟨rfl,rfl⟩:=U;rw[if_pos hi];exact cl _ _ af
    .rename_i hi;simp only[aE,aA]at U;obtain⟨rfl,rfl⟩:=U;rw[if_neg hi];exact cl _ _ af
 | .loop b,F,aD,a,w,ex,Q,hf,h,U,cl=>by
  simp only[eu]at U;refine wp_loop_rounds N ?_;have key:∀(k:Nat){F:Fr}{a:Act}{w:World},cJ n R M B w0 F a w->iter k (eu E f V call N b) F=some (ex,aD)->Code.rounds E.P b Q k a w:=by
   intro k
   induction k with
   |zero=>intro F a w _ hi;simp[iter]at hi
   |succ k aN=>
    intro F a w h hi;simp only[iter]at hi;rw[rounds_succ];cases hr:eu E f V call N b F with
    |none=>simp[hr]at hi
    |some q=>
     obtain⟨aT,aX⟩:=q;cases aT with
     |normal=>
      simp only[hr]at hi;exact pa cn ef hm dZ b hf h hr λcp w' af=>aN af hi
     |exit i=>
      simp only[hr,aE,aA]at hi;obtain⟨rfl,rfl⟩:=hi;exact pa cn ef hm dZ b hf h hr λcp w' af=>cl _ _ af
     |ret=>
      simp only[hr,aE,aA]at hi;obtain⟨rfl,rfl⟩:=hi;exact pa cn ef hm dZ b hf h hr λcp w' af=>cl _ _ af
  exact key N h U
 | .rangeFunc ..,F,aD,a,w,ex,Q,_,_,U,_=>by simp[eu]at U
 | .scope _,F,aD,a,w,ex,Q,_,_,U,_=>by simp[eu]at U
 | .label _,F,aD,a,w,ex,Q,_,_,U,_=>by simp[eu]at U
 | .goto _,F,aD,a,w,ex,Q,_,_,U,_=>by simp[eu]at U
 | .refuse _,F,aD,a,w,ex,Q,_,_,U,_=>by simp[eu]at U
def x5(n:Nat):ResultVar->Prop
 | .tmp t=>t<n
 | .cell a _=>a<n
def wv(tmps:Array Value):ResultVar->Sem Value
 | .tmp t=>pure (tmps.getD t undef)
 | .cell a t=>do loadVar t (<-asAddr (tmps.getD a undef))
theorem ad9{E:Env}(h:Inv n R M F G H a w){r:ResultVar}(hr:x5 n r){d:D}(ah:zx E F r=some (d,aD)):
  (∃v,(wv a.tmps r).run E.P w=.ok v w/\hW n R M aD G H a w (dV M) d v):=by
 cases r with
 |tmp t=>
  have:=vU (E:=E) h (x:=.tmp t) (λs ae=>by cases ae;exact hr) ah;exact⟨_,by simp[wv,Act.eval],this⟩
 |cell b t=>
  simp only[zx]at ah
  split at ah
  case h_2=>cases ah
  rename_i cs ak
  split at ah
  case isFalse=>cases ah
  rename_i hl
  split at ah
  case h_2=>cases ah
  rename_i bf vd
  split at ah
  .cases ah
  rename_i hu;simp only[aE,aA]at ah;obtain⟨rfl,rfl⟩:=ah;simp only[Bool.or_eq_true,not_or,Bool.not_eq_true]at hu;rw[h.get]at ak;have e6:=h.jq b;obtain⟨g,e,ts,aT,a5⟩:=Kw e6 ak;have cI:bg G b≠fP:=by rw[aT,fP];simp
  have hf:=tV cI;have cm:=h.iJ b;obtain⟨u,bQ,cb,cK,cS,dh,dr,gi⟩:=CP h (W:=λu=>u=bg G b) hf rfl;subst dh;rw[aT]at cm cS;have qR:T.ga M ts:=cm;have qQ:T.ho ts:=cS;have eT:a.tmps.getD b undef=.pointer (some ⟨g,0,none⟩):=by
   have ag:b<n:=hr;have:=h.eval ag hf;simp only[Act.eval]at this;rw[this,aT];rfl
  have dI:=(h.block (s:=b) (ps:=[]) (x:=bg G b) rfl (b:=(g,.cells (T.bP ts).toArray e (0,0))) (by rw[aT];simp[T.blocks])).1;have bU:ts.length=aY E.P t:=by rw[<-hl,<-a5];simp
  cases gq:E.P.underlying t with
  |none=>simp[gq]at hu
  |some al_=>
   have gA:=FN (P:=E.P) (t:=t) (w:=w) (g:=g) (b:=0) (vs:=T.bP ts) gq (λj u aH=>by
    rw[cell_of_row w g (0+j) _ e (0,0) dI];simpa using aH) (by simpa using bU)
   have jI:(T.bq ts++H).Perm (T.bq ts++H):=List.Perm.refl _;have fZ:((T.bq ts++H)++[(g,Obj.cells (T.bP ts).toArray e (0,0))]).Perm ((bg G b).blocks++H):=by
    rw[aT];simp only[T.blocks];exact List.perm_append_comm.trans (by simp)
   cases dB:h0 E.P t with
   |true=>
    rw[dB]at vd gA;simp only[se,if_true,aE]at vd;subst vd;refine⟨.agg (T.bP ts).toArray,?_,.agg ts,bQ,by simp[T.erase,T.hz,a5],by simp[T.val],qQ,qR,by simpa[T.blocks]using dr.less fZ,?_⟩
    .simp only[wv,eT,asAddr,Sem.run_bind,Sem.run_pure,Result.andThen_ok];have:=gA (by simp);simpa using this
    .simp only[T.blocks];exact Sub.trans (Sub.less fZ) gi
   |false=>
    rw[dB]at vd gA;simp only[se,a6,if_false]at vd
    split at vd
    .rename_i c;simp only[aE]at vd;subst vd
     match ts,a5,qR,qQ,bU,gA,fZ,dI with
     |[PS],a5,qR,qQ,bU,gA,fZ,dI=>
      simp only[ba,List.map_nil,List.cons.injEq,and_true]at a5;subst a5;have Iv:PS.erase≠.undef:=λaG=>by rw[aG]at hu;simp[kK]at hu
      refine⟨PS.val,?_,PS,bQ,rfl,rfl,qQ.1,xW qR.1 Iv,by simpa[T.bq]using dr.less fZ,?_⟩
      .simp only[wv,eT,asAddr,Sem.run_bind,Sem.run_pure,Result.andThen_ok];have:=gA (λ_=>by simpa using bU.symm);simpa[T.bP]using this
      .have:=Sub.trans (Sub.less fZ) gi;simpa[T.bq]using this
     |[],a5,_,_,_,_,_,_=>simp at a5
     |_::_::_,a5,_,_,_,_,_,_=>simp at a5
    .cases vd
theorem Q_{E:Env}:∀(rs:List ResultVar){F aD:Fr}{G:bK}{H:dD}{az:List D},Inv n R M F G H a w->(∀r∈rs,x5 n r)->sE E F rs=some (az,aD) ->
  ∃ts bS,ts.map T.erase=az/\(rs.mapM (wv a.tmps)).run E.P w=.ok (T.bP ts) w/\T.ho ts/\(∀t∈ts,dV M t)/\Inv n R M aD bS (T.bq ts++H) a w/\Sub (a8 bS++(T.bq ts++H)) (a8 G++H)
 |[],F,aD,G,H,az,h,_,ah=>by
  simp only[sE,aE,aA]at ah;obtain⟨rfl,rfl⟩:=ah;exact⟨[],G,rfl,by simp[T.bP],trivial,by simp,by simpa[T.bq]using h,by simpa[T.bq]using Sub.refl _⟩
 |r::rs,F,aD,G,H,az,h,hf,ah=>by
  simp only[sE]at ah;cases ad:zx E F r with
  |none=>simp[ad]at ah
  |some q=>
   obtain⟨d,aX⟩:=q;simp only[ad]at ah;cases hr:sE E aX rs with
   |none=>simp[hr]at ah
   |some cM=>
    obtain⟨m9,bN⟩:=cM;simp only[hr,aE,aA]at ah;obtain⟨rfl,rfl⟩:=ah;obtain⟨v,av,t,bQ,a2,bA,a3,a4,cj,eQ⟩:=ad9 h (hf r (by simp)) ad;obtain⟨ts,cr,cb,cK,cS,dh,dr,gi⟩:=Q_ rs cj (λx U=>hf x (by simp[U])) hr;refine⟨t::ts,cr,by simp[a2,cb],?_,⟨a3,cS⟩,?_,?_,?_⟩
    .simp only[List.mapM_cons,Sem.run_bind,av,Result.andThen_ok,cK,Sem.run_pure,T.bP,bA]
    .intro x U;rcases bL.1 U with rfl|U
     .exact a4
     .exact dh x U
    .refine { dr with bd:=?_ };refine dr.bd.perm (bo _ ?_);simp only[T.bq,b3];exact bB _ _ _
    .refine Sub.trans (Sub.xt ?_) (gi.trans eQ);refine bo _ ?_;simp only[T.bq,b3];exact bB _ _ _
end
end Go.aS
namespace Go.aS
open D
def bG(E:Env)(n:Nat)(fi:Code)(F:Fr)(Q:dU->Fr->Prop):Prop:=
 ∀(R:Nat->Value)(M:Mem)(B:List Nat)(w0:World)(a:Act)(w:World)(ei:Exit->Act->World->Prop),o_ n fi->Good E M->cJ n R M B w0 F a w ->
  (∀e aD cp w',Q e aD->cJ n R M B w0 aD cp w'->ei (G4 e) cp w')->fi.wp E.P ei a w
def C5(E:Env)(f:Nat)(fd:Func)(n:Nat)(r:D)(outs:List D):dU->Fr->Prop
 | .exit _,_=>False
 |_,F=>ow E f fd n F=some (r,outs)
section
variable{E:Env}{n f:Nat}{V:List Nat}{F aD:Fr}{Q:dU->Fr->Prop}{call:Nat->List D->Option (D×List D)}
theorem bG.exec(cn:lL E call)(hm:E.P.follows .mixedOrders=true)(dZ:V.Nodup){N:Nat}{fi:Code}{e:dU}(h:eu E f V call N fi F=some (e,aD))(k:Q e aD):bG E n fi F Q:=
 λ_ _ _ _ _ _ _ hf ak af cl=>pa cn ak hm dZ fi hf af h λcp w' fy=>cl _ _ cp w' k fy
theorem bG.region(cn:lL E call)(hm:E.P.follows .mixedOrders=true)(f:Nat)(V:List Nat)(dZ:V.Nodup){id:Nat}{ops:Array Oper}{d:Bool}(aD:Fr)(h:k8 E f V call ops d F=some aD)(k:Q .normal aD):bG E n (.region id ops d) F Q:=by
 intro R M B w0 a w ei hf ak af cl;unfold k8 at h;cases d with
 |true=>
  simp only[if_true]at h
  split at h
  .rename_i ad;simp only[cA]at ad;simp only[aM]at h;obtain⟨bN,ah,rfl⟩:=h;exact QI (λh=>GB (λ_ _ _ h=>by cases h) h) cn ak hm hf af ad.1 ah λcp w' af=>cl _ _ _ _ k (af.norm dZ)
  .cases h
 |false=>
  simp only[a6,if_false,aM]at h;obtain⟨bN,ah,rfl⟩:=h;exact wp_region (Dl cn ak hf _ af ah λcp w' af=>cl _ _ _ _ k (af.norm dZ))
theorem bG.skip(k:Q .normal F):bG E n .skip F Q:=λ_ _ _ _ _ _ _ _ _ af cl=>wp_skip (cl _ _ _ _ k af)
theorem bG.ret(k:Q .ret F):bG E n .ret F Q:=λ_ _ _ _ _ _ _ _ _ af cl=>wp_ret (cl _ _ _ _ k af)
theorem bG.exit{id:Nat}(k:Q (.exit id) F):bG E n (.exit id) F Q:=λ_ _ _ _ _ _ _ _ _ af cl=>wp_exit (cl _ _ _ _ k af)
theorem bG.mono{ry:dU->Fr->Prop}{fi:Code}(h:bG E n fi F Q)(k:∀e F,Q e F->ry e F):bG E n fi F ry:=
 λR M B w0 a w ei hf ak af cl=>h R M B w0 a w ei hf ak af λe aD cp w' q=>cl e aD cp w' (k e aD q)
def agn(E:Env)(n:Nat)(b:Code)(Q:dU->Fr->Prop):dU->Fr->Prop
 | .normal,F=>bG E n b F Q
 |e,F=>Q e F
theorem bG.seq{a b:Code}(h:bG E n a F (agn E n b Q)):bG E n (.seq a b) F Q:=by
 intro R M B w0 x w ei hf ak af cl;refine wp_seq (h R M B w0 x w _ hf.1 ak af ?_);intro e aD cp w' q fy;cases e with
 |normal=>exact q R M B w0 cp w' ei hf.2 ak fy cl
 |exit id=>exact cl _ _ _ _ q fy
 |ret=>exact cl _ _ _ _ q fy
theorem bG.cond{y:Operand}{a b:Code}{t:Bool}(aw:aZ E F y=some (.lit (.bool t)))(I:t=true->bG E n a F Q)(aa:t=false->bG E n b F Q):bG E n (.cond y a b) F Q:=by
 intro R M B w0 x w ei hf ak af cl;obtain⟨b1,bQ,i1,aT⟩:=af;have ag:=jd (i1.aZ hf.1 aw);refine wp_cond ag ?_;cases t with
 |true=>exact I rfl R M B w0 x w ei hf.2.1 ak ⟨b1,bQ,i1,aT⟩ cl
 |false=>exact aa rfl R M B w0 x w ei hf.2.2 ak ⟨b1,bQ,i1,aT⟩ cl
def Ui(id:Nat)(Q:dU->Fr->Prop):dU->Fr->Prop
 | .exit i,F=>if i=id then Q .normal F else Q (.exit i) F
 |e,F=>Q e F
theorem bG.block{id:Nat}{b:Code}(h:bG E n b F (Ui id Q)):bG E n (.block id b) F Q:=by
 intro R M B w0 x w ei hf ak af cl;refine wp_block (h R M B w0 x w _ hf ak af ?_);intro e aD cp w' q fy;cases e with
 |normal=>exact cl _ _ _ _ q fy
 |ret=>exact cl _ _ _ _ q fy
 |exit i=>
  show(if i=id then ei .normal cp w' else ei (.exit i) cp w');simp only[Ui]at q
  split
  .rename_i hi;rw[if_pos hi]at q;exact cl _ _ _ _ q fy
  .rename_i hi;rw[if_neg hi]at q;exact cl _ _ _ _ q fy
def G9(E:Env)(n:Nat)(b:Code)(Q:dU->Fr->Prop):Nat->Fr->Prop
 |0,_=>False
 |k+1,F=>bG E n b F λe aX=>match e with
  | .normal=>G9 E n b Q k aX
  |e=>Q e aX
theorem bG.loop{b:Code}(k:Nat)(h:G9 E n b Q k F):bG E n (.loop b) F Q:=by
 intro R M B w0 x w ei hf ak af cl;refine wp_loop_rounds k ?_;have key:∀(k:Nat){F:Fr}{a:Act}{w:World},G9 E n b Q k F->cJ n R M B w0 F a w->Code.rounds E.P b ei k a w:=by
  intro k
  induction k with
  |zero=>intro F a w h _;exact h.elim
  |succ k aN=>
   intro F a w h af;rw[rounds_succ];refine h R M B w0 a w _ hf ak af ?_;intro e aD cp w' q fy;cases e with
   |normal=>exact aN q fy
   |exit id=>exact cl _ _ _ _ q fy
   |ret=>exact cl _ _ _ _ q fy
 exact key k h af
theorem bG.Bu{b:Code}(P:Nat->Fr->Prop)(aO:∀F,¬P 0 F)(ae:∀k F,P (k+1) F->bG E n b F λe aX=>match e with
  | .normal=>P k aX
  |e=>Q e aX) (k:Nat) (h:P k F):bG E n (.loop b) F Q:=by
 refine bG.loop k ?_;have key:∀(k:Nat)(F:Fr),P k F->G9 E n b Q k F:=by
  intro k
  induction k with
  |zero=>intro F h;exact absurd h (aO F)
  |succ k aN=>
   intro F h;refine bG.mono (ae k F h) λe aX q=>?_;cases e with
   |normal=>exact aN aX q
   |exit i=>exact q
   |ret=>exact q
 exact key k F h
theorem bG.less{fi:Code}(k:∀(R:Nat->Value)(M:Mem)(B:List Nat)(w0:World)(a:Act)(w:World),cJ n R M B w0 F a w->cJ n R M B w0 aD a w)(h:bG E n fi aD Q):bG E n fi F Q:=
 λR M B w0 a w ei hf ak af cl=>h R M B w0 a w ei hf ak (k R M B w0 a w af) cl
theorem bG.kD{fi:Code}{V:List Nat}(dZ:V.Nodup)(aD:Fr)(he:aS.norm V F=aD)(h:bG E n fi aD Q):bG E n fi F Q:=bG.less (λ_ _ _ _ _ _ af=>by rw[<-he];exact af.norm dZ) h
end
end Go.aS
namespace Go.aS
open D
def Lw(E:Env):Prop:=∀(f:Nat)(p:List D->Option (D×List D))(az:List D)(r:D)(outs:List D),E.kG f=some p->p az=some (r,outs)->sO E f az r outs
def Lu(E:Env):Prop:=∀(call:Nat->List D->Option (D×List D)),lL E call->∀(f:Nat)(q:List D->Ask)(az:List D)(r:D)(outs:List D),E.hand f=some q->fz call (q az)=some (r,outs)->sO E f az r outs
structure Du(E:Env):Prop where
 mixed:E.P.follows .mixedOrders=true
 ais:Lu E
 ald:Lw E
 name : ∀ (f : Nat) (fd : Func), E.P.funcs[f]? = some fd -> E.kG f = none -> (fd.name == "runtime.NumGoroutine") = false
 fits:∀(f:Nat)(fd:Func)(c:Code),E.P.funcs[f]?=some fd->E.kG f=none->fd.body=some c->o_ fd.ntmps c/\∀r∈fd.results.toList,x5 fd.ntmps r
 vars:∀(f:Nat),(E.vars f).Nodup/\∀s∈E.vars f,s<1000000
section
variable{n:Nat}{R:Nat->Value}{M:Mem}{F aD:Fr}{G:bK}{H:dD}{a:Act}{w w0:World}{B:List Nat}
def nE(E:Env)(f:Nat):Nat->List T->bK
 |_,[]=>[]
 |i,t::ts=>if E.mode f i=.eF then(i,.leaf (.alias (iH i) []) t.val)::(iH i,t)::nE E f (i+1) ts else(i,t)::nE E f (i+1) ts
theorem Qi(E:Env)(f:Nat):∀(ts:List T)(i:Nat),mm (nE E f i ts)=nH E f i (ts.map T.erase)
 |[],_=>rfl
 |t::ts,i=>by
  have aN:=Qi E f ts (i+1);simp only[mm]at aN;simp only[nE,ba,nH]
  split
  .simp only[mm,ba,T.erase,aN]
  .simp only[mm,ba,aN]
theorem JK(E:Env)(f:Nat):∀(ts:List T)(i:Nat),a8 (nE E f i ts)=T.bq ts
 |[],_=>rfl
 |t::ts,i=>by
  have aN:=JK E f ts (i+1);simp only[a8]at aN;simp only[nE,T.bq]
  split
  .simp only[a8,cD,T.blocks,List.nil_append,aN]
  .simp only[a8,cD,aN]
theorem QQ(E:Env)(f:Nat):∀(ts:List T)(i:Nat){s:Nat}{t:T},(s,t)∈nE E f i ts->∃j u,ts[j]?=some u /\
  ((s=i+j/\E.mode f (i+j)≠.eF/\t=u)∨(s=i+j/\E.mode f (i+j)=.eF/\t=.leaf (.alias (iH (i+j)) []) u.val)∨(s=iH (i+j)/\E.mode f (i+j)=.eF/\t=u))
 |[],_,_,_,h=>by simp[nE]at h
 |u::ts,i,s,t,h=>by
  have step:(s,t)∈nE E f (i+1) ts->∃j v,(u::ts)[j]?=some v /\
    ((s=i+j/\E.mode f (i+j)≠.eF/\t=v)∨(s=i+j/\E.mode f (i+j)=.eF/\t=.leaf (.alias (iH (i+j)) []) v.val)∨(s=iH (i+j)/\E.mode f (i+j)=.eF/\t=v)):=λh=>by
   obtain⟨j,v,I,aa⟩:=QQ E f ts (i+1) h;refine⟨j+1,v,by simpa using I,?_⟩;rw[show i+(j+1)=i+1+j by omega];exact aa
  simp only[nE]at h
  split at h
  .rename_i hm;simp only[bL,aA]at h;rcases h with⟨rfl,rfl⟩|⟨rfl,rfl⟩|h
   .exact ⟨0,u,rfl,.inr (.inl ⟨rfl,hm,rfl⟩)⟩
   .exact ⟨0,t,rfl,.inr (.inr ⟨rfl,hm,rfl⟩)⟩
   .exact step h
  .rename_i hm;simp only[bL,aA]at h;rcases h with⟨rfl,rfl⟩|h
   .exact ⟨0,t,rfl,.inl ⟨rfl,hm,rfl⟩⟩
   .exact step h
theorem Si:∀{G:bK}{s:Nat}{t:T},eg G s=some t->(s,t)∈G
 |[],_,_,h=>by simp[eg]at h
 |(k,x)::G,s,t,h=>by
  simp only[eg]at h
  split at h
  .rename_i aj;cases h;subst aj;exact cx
  .exact cc _ (Si h)
theorem Qz(E:Env)(f:Nat):∀(ts:List T)(i j:Nat){u:T},ts[j]?=some u->E.mode f (i+j)=.eF->i+ts.length<=1000000->eg (nE E f i ts) (iH (i+j))=some u
 |[],_,_,_,h,_,_=>by simp at h
 |t::ts,i,0,u,h,hm,hl=>by
  simp only[b5,aE]at h;subst h;have e8:E.mode f i=.eF:=hm;have cI:i≠iH i:=by unfold iH;omega
  simp only[nE,e8,if_true,eg,Nat.add_zero,cI,if_false]
 |t::ts,i,j+1,u,h,hm,hl=>by
  have I:ts[j]?=some u:=by simpa using h
  have aH:=(aQ.1 I).1;have he:i+(j+1)=i+1+j:=by omega
  have aN:=Qz E f ts (i+1) j I (by rw[<-he];exact hm) (by simp at hl;omega);rw[he];have pH:i≠iH (i+1+j):=by unfold iH;simp at hl;omega
  have qL:iH i≠iH (i+1+j):=by unfold iH;omega
  simp only[nE]
  split
  .simp only[eg,pH,qL,if_false,aN]
  .simp only[eg,pH,if_false,aN]
theorem RG(E:Env)(f:Nat):∀(ts:List T)(i j:Nat){u:T},ts[j]?=some u->E.mode f (i+j)=.eF->u∈ht E f i ts
 |[],_,_,_,h,_=>by simp at h
 |t::ts,i,0,u,h,hm=>by
  simp only[b5,aE]at h;subst h;have e8:E.mode f i=.eF:=hm;simp only[ht,e8,if_true];exact cx
 |t::ts,i,j+1,u,h,hm=>by
  have aN:=RG E f ts (i+1) j (by simpa using h) (by rw[show i+1+j=i+(j+1) by omega];exact hm);simp only[ht]
  split
  .exact cc _ aN
  .exact aN
theorem CL(E:Env)(f:Nat):∀(n i s:Nat),s∈ij E f i n->∃j,i<=j/\j<i+n/\s=iH j/\E.mode f j=.eF
 |0,_,_,h=>by simp[ij]at h
 |n+1,i,s,h=>by
  simp only[ij]at h
  split at h
  .rename_i hm;rcases bL.1 h with rfl|h
   .exact ⟨i,by omega,by omega,rfl,hm⟩
   .obtain ⟨j,I,aa,aB⟩:=CL E f n (i+1) s h;exact⟨j,by omega,by omega,aB⟩
  .obtain ⟨j,I,aa,aB⟩:=CL E f n (i+1) s h;exact⟨j,by omega,by omega,aB⟩
theorem F3(E:Env)(f:Nat):∀(n i:Nat),(ij E f i n).Nodup
 |0,_=>by simp[ij]
 |n+1,i=>by
  simp only[ij]
  split
  .refine List.nodup_cons.2 ⟨λh=>?_,F3 E f n (i+1)⟩;obtain⟨j,I,_,aB,_⟩:=CL E f n (i+1) _ h;unfold iH at aB;omega
  .exact F3 E f n (i+1)
theorem RH(E:Env)(f:Nat){R:Nat->Value}:∀(ts:List T)(i:Nat),(∀j u,ts[j]?=some u->R (iH (i+j))=u.val)->(ij E f i ts.length).map R=T.bP (ht E f i ts)
 |[],_,_=>rfl
 |t::ts,i,h=>by
  have aN:=RH E f ts (i+1) (λj u aH=>by have:=h (j+1) u (by simpa using aH);rwa [show i+1+j=i+(j+1) by omega]);have aO:=h 0 t rfl;simp only[List.length_cons,ij,ht]
  split
  .simp only[ba,T.bP,aN];rw[<-aO];rfl
  .exact aN
theorem abW{E:Env}{f:Nat}{ts:List T}{N:Nat}(eL:ts.length<=N)(VF:N<1000000)(al:∀t∈ts,t.tidy/\dV M t)(hl:∀t∈ht E f 0 ts,t.node=true)(ag:dT M w (T.bq ts))(hm:fE M w):
  Inv N (λs=>(ts.getD (s-1000000) fP).val) M (nH E f 0 (ts.map T.erase)) (nE E f 0 ts) [] { tmps:=(T.bP ts).toArray++c_ (N-(T.bP ts).toArray.size) undef,defers:=[] } w:=by
 have eE:∀s t,eg (nE E f 0 ts) s=some t->_:=λs t h=>QQ E f ts 0 (Si h);have gI:∀(j:Nat)(u:T),ts[j]?=some u->((T.bP ts).toArray++c_ (N-(T.bP ts).toArray.size) undef)[j]?=some u.val:=λj u aH=>by
  have bU:=(aQ.1 aH).1;rw[Array.getElem?_append_left (by simpa using bU)];simp[T.ny,aH]
 constructor
 .exact Qi E f ts 0
 .simp;omega
 .rfl
 .intro s t h;obtain⟨j,u,aH,ad⟩:=eE s t h;have bU:=(aQ.1 aH).1;simp only[Nat.zero_add]at ad;rcases ad with⟨rfl,_,rfl⟩|⟨rfl,_,rfl⟩|⟨rfl,_,rfl⟩
  .rw [if_pos (by omega)];exact gI _ _ aH
  .rw [if_pos (by omega)];exact gI _ u aH
  .rw [if_neg (by unfold iH;omega)];have:iH j-1000000=j:=by unfold iH;omega
   simp[this,aH]
 .intro s t h;obtain⟨j,u,aH,ad⟩:=eE s t h;have hu:=al u (cu aH);rcases ad with⟨_,_,rfl⟩|⟨_,_,rfl⟩|⟨_,_,rfl⟩
  .exact hu.1
  .simp [T.tidy]
  .exact hu.1
 .intro s t h;obtain⟨j,u,aH,ad⟩:=eE s t h;have hu:=al u (cu aH);have bU:=(aQ.1 aH).1;rcases ad with⟨_,_,rfl⟩|⟨_,mE,rfl⟩|⟨_,_,rfl⟩
  .exact p6 hu.2
  .have l3:=Qz E f ts 0 j aH mE (by omega);exact⟨u,by simp only[T.bw,bg,l3,cT],hl u (RG E f ts 0 j aH mE),rfl⟩
  .exact p6 hu.2
 .rw [JK,dn];exact ag
 .exact hm
theorem QK {P : Program} {f : Nat} {fd : Func} {c : Code} (hf : P.funcs[f]? = some fd) (ao : (fd.name == "runtime.NumGoroutine") = false) (ag : fd.body = some c) (args : Array Value) (w : World) : (callFunc f args).run P w = .ok (.enter f args) w := by
 unfold callFunc;simp only[Sem.run_bind,run_program,Result.andThen_ok,hf,ao,ag,Option.isNone_some,a6,if_false,Sem.run_pure]
def E3:List Value->Value
 |[v]=>v
 |vs=>.tuple vs.toArray
theorem YI{P:Program}{O:Type}(f:O->Sem Value)(arr:Array O){vs:List Value}{w:World}(h:(arr.toList.mapM f).run P w=.ok vs w):(arr.mapM f).run P w=.ok vs.toArray w:=by
 rw[<-Array.toArray_toList (xs:=arr),List.mapM_toArray];simp only[map_eq_pure_bind,Sem.run_bind,h,Result.andThen_ok,Sem.run_pure]
theorem Zw{P:Program}{fd:Func}{tmps:Array Value}{vs:List Value}{w:World}(h:(fd.results.toList.mapM (wv tmps)).run P w=.ok vs w):(results fd tmps).run P w=.ok (E3 vs) w:=by
 have hr:results fd tmps=(do let vs <-fd.results.mapM (wv tmps);pure (if h:vs.size=1 then vs[0]else .tuple vs)):=by
  unfold results;congr 2
 rw[hr,Sem.run_bind,YI (wv tmps) fd.results h];simp only[Result.andThen_ok,Sem.run_pure]
 match vs with
 |[]=>rfl
 |[v]=>rfl
 |_::_::_=>simp[E3]
theorem KC {E : Env} {f : Nat} {fd : Func} {c : Code} {az : List D} {r : D} {outs : List D} {V : List Nat} (hf : E.P.funcs[f]? = some fd) (ao : (fd.name == "runtime.NumGoroutine") = false) (ag : fd.body = some c) (dM : o_ fd.ntmps c) (y7 : ∀ r ∈ fd.results.toList, x5 fd.ntmps r)
  (dZ:V.Nodup) (hlen:az.length<=fd.ntmps/\fd.ntmps<1000000) (U:bG E fd.ntmps c (norm V (nH E f 0 az)) (C5 E f fd az.length r outs)):sO E f az r outs:=by
 intro M w ts e3 qP Eo dI eE ef;have yR:az.length=ts.length:=by rw[<-e3];simp
 unfold oA;rw[QK hf ao ag];simp only;refine calls_of_wp hf ag ?_;have aO:=abW (E:=E) (f:=f) (N:=fd.ntmps) (by omega) hlen.2 qP Eo dI eE;rw[e3]at aO;have Ew:cJ fd.ntmps (λs=>(ts.getD (s-1000000) fP).val) M (keys (T.bq ts)) w (nH E f 0 az) _ w:=⟨M,_,aO,cN.mf M w (λg ak=>by rw[JK]at ak;exact ak)⟩
 have leave:∀(F:Fr)(cp:Act)(w':World),ow E f fd az.length F=some (r,outs)->cJ fd.ntmps (λs=>(ts.getD (s-1000000) fP).val) M (keys (T.bq ts)) w F cp w'->cp.defers=[]/\∃v,(results fd cp.tmps).run E.P w'=.ok v w' /\
   (∃M' t fv,Ending.returned v=.returned t.val/\t.erase=r/\t.tidy/\lP M' t/\fv.map T.erase=outs/\(∀o∈fv,o.tidy/\T.wf M' o)/\T.bP fv=T.bP (ht E f 0 ts) /\
    dT M' w' (t.blocks++T.bq fv)/\fE M' w'/\cN M (keys (T.bq ts)) w M' (keys (t.blocks++T.bq fv)) w'):=by
  intro F cp w' hl af;obtain⟨M',bS,i1,aT⟩:=af;refine⟨i1.defers,?_⟩;unfold ow at hl;cases Of:sE E F fd.results.toList with
  |none=>simp[Of]at hl
  |some q=>
   obtain⟨Xk,bN⟩:=q;simp only[Of]at hl
   split at hl
   case isFalse=>cases hl
   rename_i pH;simp only[aE,aA]at hl;obtain⟨rfl,rfl⟩:=hl;obtain⟨tI,cr,cb,cK,cS,dh,dr,gi⟩:=Q_ _ i1 y7 Of;refine⟨_,Zw cK,?_⟩
   let S:=ij E f 0 az.length
   have cR:∀s∈S,(bg cr s).tidy/\T.wf M' (bg cr s)/\(bg cr s).val=(ts.getD (s-1000000) fP).val:=λs ae=>by
    have l6:=List.all_eq_true.1 pH (get bN s) (List.mem_map.2 ⟨s,ae,rfl⟩);rw[dr.get]at l6;have e6:=dr.jq s;have cm:=dr.iJ s;have WA:(bg cr s).node=true/\T.wf M' (bg cr s):=by
     cases ak:bg cr s with
     |leaf d v=>
      rw[ak]at l6 e6 cm;cases d<;>simp_all [T.erase,D.node1,T.tidy,T.node]
      .exact .inr cm
      .exact .inr cm
     |agg=>rw[ak]at l6;simp[T.erase,D.node1]at l6
     |bt=>rw[ak]at l6;simp[T.erase,D.node1]at l6
     |own=>rw[ak]at cm;exact⟨rfl,cm⟩
     |nil=>exact⟨rfl,by simp[T.wf]⟩
     |box=>rw[ak]at cm;exact⟨rfl,cm⟩
     |map=>rw[ak]at cm;exact⟨rfl,cm⟩
     |bld=>rw[ak]at cm;exact⟨rfl,cm⟩
    refine⟨e6,WA.2,?_⟩;have A4:=p5 (G:=cr) (s:=s) (ps:=[]) (x:=bg cr s) rfl WA.1;have:=dr.bP s _ A4;obtain⟨j,_,_,aB,_⟩:=CL E f _ _ _ ae;rw[if_neg (by rw[aB];unfold iH;omega)]at this;exact this.symm
   have aij:∃rest,(T.bq (S.map (bg cr))++rest).Perm (a8 cr):=by
    obtain⟨rest,af⟩:=J1 S cr (F3 E f _ _);refine⟨rest,?_⟩;rw[T.sW,List.flatMap_map];exact af
   obtain⟨rest,fZ⟩:=aij;have lz:T.bP (S.map (bg cr))=T.bP (ht E f 0 ts):=by
    rw[<-RH E f (R:=λs=>(ts.getD (s-1000000) fP).val) ts 0 (λj u aH=>by
     have:iH (0+j)-1000000=j:=by unfold iH;omega
     simp only[this,List.getD_eq_getElem?_getD,aH,cT])]
    rw[T.ny,List.map_map];simp only[S,yR];refine cz λs ae=>?_;exact(cR s (by simp only[S,yR];exact ae)).2.2
   have VR:∀t:T,t.blocks=T.bq tI->dT M' w' (t.blocks++T.bq (S.map (bg cr)))/\cN M (keys (T.bq ts)) w M' (keys (t.blocks++T.bq (S.map (bg cr)))) w':=λt al=>by
    have WD:((T.bq tI++T.bq (S.map (bg cr)))++rest).Perm (a8 cr++(T.bq tI++[])):=by
     rw[dn,b3];exact(bo _ fZ).trans List.perm_append_comm
    rw[al];refine⟨dr.bd.xG WD,aT.weaken λg ak=>?_⟩;have I:=(WD.map Prod.fst).mem_iff.1 (by rw[List.map_append];exact List.mem_append_left _ ak);have aa:=gi g I;simpa[keys]using aa
   have aiN:(S.map (bg cr)).map T.erase=(ij E f 0 az.length).map (get bN):=by
    rw[List.map_map];exact cz λs _=>(dr.get s).symm
   have done:∀t:T,t.erase=yk Xk->t.val=(E3 (T.bP tI))->t.tidy->lP M' t->t.blocks=T.bq tI->_:=λt I aa aB aW bO=>by
    exact(⟨M',t,S.map (bg cr),by rw[aa],I,aB,aW,aiN,(λo an=>by
     obtain⟨s,ae,rfl⟩:=List.mem_map.1 an
     exact⟨(cR s ae).1,(cR s ae).2.1⟩),lz,(VR t bO).1,dr.mem,(VR t bO).2⟩:∃M' t fv,Ending.returned (E3 (T.bP tI))=.returned t.val/\t.erase=yk Xk/\t.tidy/\lP M' t/\fv.map T.erase=(ij E f 0 az.length).map (get bN)/\(∀o∈fv,o.tidy/\T.wf M' o)/\T.bP fv=T.bP (ht E f 0 ts) /\
    dT M' w' (t.blocks++T.bq fv)/\fE M' w'/\cN M (keys (T.bq ts)) w M' (keys (t.blocks++T.bq fv)) w')
   by_cases I:tI.length=1
   .obtain ⟨t,rfl⟩:=List.length_eq_one_iff.1 I;have ak:=dh t (by simp);refine done t ?_ (by simp[T.bP,E3]) cS.1 ?_ (by simp[T.bq])
    .rw [<-cb];rfl
    .cases t<;>first|exact ak|exact ak.elim
   .refine done (.bt tI) ?_ ?_ cS (λc ad=>dh c ad) (by simp[T.blocks])
    .rw [<-cb];simp only[T.erase,T.hz]
     match tI,I with
     |[],_=>rfl
     |[_],I=>simp at I
     |_::_::_,_=>rfl
    .simp only[T.val]
     match tI,I with
     |[],_=>rfl
     |[_],I=>simp at I
     |_::_::_,_=>rfl
 refine U _ _ _ _ _ _ _ dM ef (Ew.norm dZ) λe F cp w' q af=>?_;cases e with
 |normal=>exact leave F cp w' q af
 |ret=>exact leave F cp w' q af
 |exit id=>exact q.elim
theorem S7{E:Env}(na:Du E):∀(n:Nat),lL E (gR E n)
 |0,f,az,r,outs,h=>by simp[gR]at h
 |n+1,f,az,r,outs,h=>by
  have aN:=S7 na n;simp only[gR]at h;cases af:E.kG f with
  |some p=>
   rw[af]at h;simp only at h;cases N8:p az with
   |some x=>
    simp only[N8,aE]at h;subst h;exact na.ald f p az _ _ af N8
   |none=>
    simp only[N8]at h;cases au:E.hand f with
    |none=>simp[au]at h
    |some q=>
     simp only[au]at h;exact na.ais (gR E n) aN f q az r outs au h
  |none=>
   simp only[af]at h;cases hf:E.P.funcs[f]? with
   |none=>simp[hf]at h
   |some fd=>
    simp only[hf]at h;cases ag:fd.body with
    |none=>simp[ag]at h
    |some c=>
     simp only[ag]at h
     split at h
     case isFalse=>cases h
     rename_i hlen;obtain⟨dM,y7⟩:=na.fits f fd c hf af ag;obtain⟨EJ,EK⟩:=na.vars f;have yR:(E.vars f++ij E f 0 az.length).Nodup:=by
      rw[List.nodup_append];refine⟨EJ,F3 E f _ _,?_⟩;rintro x U y aw rfl;obtain⟨j,_,_,aB,_⟩:=CL E f _ _ _ aw;have:=EK x U;unfold iH at aB;omega
     refine KC hf (na.name f fd hf af) ag dM y7 yR hlen ?_;cases U:eu E f (E.vars f++ij E f 0 az.length) (gR E n) n c (norm (E.vars f++ij E f 0 az.length) (nH E f 0 az))with
     |none=>simp[U]at h
     |some q=>
      obtain⟨ex,F⟩:=q;rw[U]at h;refine bG.exec aN na.mixed yR U ?_;cases ex with
      |normal=>exact h
      |ret=>exact h
      |exit id=>simp at h
end
end Go.aS
