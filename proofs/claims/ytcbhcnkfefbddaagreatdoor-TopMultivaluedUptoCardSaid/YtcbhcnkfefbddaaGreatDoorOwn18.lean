/- An interpreter of function bodies, sound. No conditions. -/
import Derived.Test.YtcbhcnkfefbddaaGreatDoorOwn17
import Derived.Test.YtcbhcnkfefbddaaGreatDoorOwn5
set_option linter.all false
open List renaming length_append->aA,mem_append->aM,mem_map->aQ,perm_append_comm->a6,append_nil->ba,map_cons->bo,eq_nil_of_length_eq_zero->bL,getElem?_eq_some_iff->b5,getElem?_append_left->cc,eq_of_mem_replicate->cu,map_append->cx,replicate->cA,getElem?_toArray->c_,all_eq_true->dR,cons_append->eb
open List.Perm renaming trans->bB,append_left->cT
open Array renaming getElem?_eq_some_iff->b3
open Prod renaming fst->cz
open Nat renaming add_mul->cD,mul_le_mul_right->dn,zero_add->du
namespace Go.aS
open D
section
variable{n:Nat}{R:Nat->Value}{M:Mem}{F aD:Fr}{G:bK}{H:dD}{a:Act}{w w0:World}{B:List Nat}
theorem ZH{E:Env}(h:Inv n R M F G [] a w){t u ty:Nat}{x y:Operand}(U:Fits n x)(aw:Fits n y)(hu:nw E.P u=true)(dst:Option Nat)(ah:∀d,dst=some d->d<n)(aC:rC E F t dst x y=some aD):
  ∃v w',(Builtin.append_ #[t,u] ty #[a.eval x,a.eval y]).run E.P w=.ok v w'/\((cJ n R M (keys (a8 G)) w aD (a.put dst v) w'/\∃A xr sa c,a.eval x=.slice A xr c/\v=.slice A sa c) ∨
   ∃B,(∀g∈B,g∈keys (a8 G))/\(∀g xr c,a.eval x=.slice (some ⟨g,0,none⟩) xr c->g ∉ B)/\cJ n R M B w aD (a.put dst v) w'):=by
 simp only[rC]at aC;cases ae:eD E.P t with
 |none=>simp[ae]at aC
 |some e=>
  simp only[ae]at aC;cases pQ:fC E.P e with
  |none=>simp[pQ]at aC
  |some z=>
   simp only[pQ]at aC;cases aj:c9 E F x with
   |none=>simp[aj]at aC
   |some r=>
    obtain⟨rJ,aX⟩:=r;cases rJ with
    |own es=>
     simp only[aj]at aC;cases ao:jO E aX y with
     |none=>simp[ao]at aC
     |some q=>
      obtain⟨new,bN⟩:=q;simp only[ao]at aC
      split at aC
      case isFalse=>cases aC
      rename_i ad;obtain⟨b_,cM,fI,oY,Jd,zr⟩:=ad;simp only[aE]at aC;subst aC;obtain⟨Jo,bQ,cb,cK,cS,dh,dr,gi⟩:=vU h U aj;obtain⟨dt,cr,cF,ck,dG,fh,e0,nV⟩:=Q6 dr aw ao zr oY;obtain⟨i,tS,vI,i1,i2,i3,i4,i5,i6,i7⟩:=v_ (M:=M) pQ;obtain⟨ar,aI,z3,z4,dg⟩:=q_ i6 i5;have fO:i.size=aY E.P e:=by simp[aY,i1]
      have nb:i.bytes=j5 E.P e:=by simp[j5,i1]
      have iF:tS.cells.size=aY E.P e:=by
       rw[<-fI,<-i3,<-ar,<-i4];have:=congrArg List.length aI;simp at this⊢;omega
      rw[<-fO]at fh;have gq:=tX ae;rw[<-cK];have ky:dt.length=new.length:=by rw[<-cF];simp
      have vb:∀e'∈dt,e'.length=aY E.P e:=by
       intro e' he;have:=dR.1 zr (e'.map T.erase) (by rw[<-cF];exact aQ.2 ⟨e',he,rfl⟩);simpa using this
      have grown:∀(base:Option Addr)(sCap:Nat)(to:List (List T)),to.map (·.map T.erase)=es->T.iv to->T.ha M to->(∀e'∈to,e'.length=aY E.P e)->sCap<es.length+new.length ->
        (∀w',w'.heap=w.heap->(Builtin.firstCells i.size es.length (.slice base es.length sCap)).run E.P w'=.ok (T.bH to).toArray w') ->
        Inv n R M bN cr (T.cO (to++dt)++[]) a w ->
        ∃v w',(Builtin.append_ #[t,u] ty #[.slice base es.length sCap,a.eval y]).run E.P w=.ok v w'/\cJ n R M (keys (a8 cr++(T.cO (to++dt)++[]))) w (fin bN dst (.own (es++new))) (a.put dst v) w':=by
       intro base sCap to t1 t2 t3 t4 t5 t6 t7;have eU:to.length=es.length:=by rw[<-t1];simp
       have hr:=JY (ty:=ty) gq hu i1 i2 fh t6 t5 (by omega) (growslice_fits t5 (by rw[nb];exact b_));refine⟨_,_,hr,?_⟩;have gz:=grownCap_ge w (es.length+new.length) sCap e;have jx:grownCap w (es.length+new.length) sCap e<=maxLen:=grownCap_le_maxLen w _ sCap e (by simp[maxLen];omega);generalize cP:grownCap w (es.length+new.length) sCap e=C at gz jx;have n6:(T.bH to).toArray++(T.bH dt).toArray++Builtin.zeroCells tS.cells (C-(es.length+new.length))=(T.bH (to++dt)++T.bH (cA (C-(es.length+new.length)) vI.cells)).toArray:=by
        apply Array.ext';rw[Cn];simp only[Array.toList_append,T.tP];rw[xM _ (by omega),zF,aI,i4]
       rw[n6];have OA:∀e'∈to++dt,e'.length=aY E.P e:=by
        intro e' he;rcases aM.1 he with he|he
        .exact t4 e' he
        .exact vb e' he
       have tq:vI.cells.length=aY E.P e:=by rw[<-fI,<-i3,<-ar];simp
       have hw:T.wf M (.own w.heap.size C e (T.bH (cA (C-(es.length+new.length)) vI.cells)) (to++dt)):=by
        simp only[T.wf];refine⟨⟨aY E.P e,oY,OA,?_⟩,by simp only[aA,eU,ky];omega,jx,?_,?_⟩
        .rw [kg (k:=aY E.P e) (by intro x U;rw[cu U];exact tq)];simp only[List.length_replicate,aA,eU,ky,<-cD];congr 1;omega
        .refine tT (M:=M) ?_;rw[T.mR];intro x U;rw[cu U];exact z4
        .rw [T.mR]at t3 dG⊢;intro x U;rcases aM.1 U with U|U
         .exact t3 x U
         .exact dG x U
       have NF:Inv n R M bN cr (T.cO (to++dt)++[]) a w.drew:=t7.nc rfl;have:=F6 (B:=keys (a8 cr++(T.cO (to++dt)++[]))) (w0:=w) NF C e (T.bH (cA (C-(es.length+new.length)) vI.cells)) (by
        rw[T.q4]at t2 ck⊢;intro x U;rcases aM.1 U with U|U
        .exact t2 x U
        .exact ck x U) hw dst ah ((cN.mf M w λg ak=>ak).nc (w2:=w.drew) rfl rfl rfl rfl)
       rw[cx,t1,cF,aA,eU,ky]at this;exact this
      rcases om cS cb with⟨g,cap,el,sp,ts,aT,a5⟩|⟨aT,a5⟩
      .subst aT;have eU:ts.length=es.length:=by rw[<-a5];simp
       obtain⟨⟨k',NR,iU,kr⟩,w2,hp,oh,k_⟩:=dh;have hM:∀e'∈ts,e'.length=aY E.P e:=by
        intro e' he;have:=dR.1 Jd (e'.map T.erase) (by rw[<-a5];exact aQ.2 ⟨e',he,rfl⟩);simpa using this
       have oS:=kg hM;have jz:sp.length+es.length*aY E.P e=cap*aY E.P e:=by
        rw[eU]at kr;by_cases aG:es.length=0
        .have A1:cap=0:=w2.2 (by rw[eU];exact aG);simp only[aG,A1,Nat.zero_mul]at kr⊢;exact kr
        .have:k'=aY E.P e:=by
          cases ts with
          |nil=>simp at eU;omega
          |cons x ts=>rw[<-iU x (by simp),hM x (by simp)]
         rw[<-this];exact kr
       have qR:T.ha M ts:=k_;have qQ:T.iv ts:=cS;have rO:w.heap[g]?=some (.cells (T.bH ts++sp).toArray el (0,0)):=e0.bd.heap (g,.cells (T.bH ts++sp).toArray el (0,0)) (by simp[T.blocks]);simp only[T.val,eU];have fZ:((g,Obj.cells (T.bH ts++sp).toArray el (0,0))::(a8 cr++(T.cO (ts++dt)))).Perm (a8 cr++(T.cO dt++((T.own g cap el sp ts).blocks++[]))):=by
        simp only[T.blocks,ba,T.sX];refine List.perm_middle.symm.trans ?_;refine cT _ ?_;refine bB ?_ a6;simp
       by_cases qN:es.length+new.length<=cap
       .have hr:=FX (ty:=ty) gq hu i1 fh (base:=some ⟨g,0,none⟩) qN;have c8:=run_storeCells_at E.P g (es.length*aY E.P e) el (T.bH dt) 0 _ w rO (by
         rw[kg vb,ky];simp only[List.size_toArray,aA,oS,eU,Nat.add_zero];rw[<-cD];have:(es.length+new.length)*aY E.P e<=cap*aY E.P e:=dn _ qN
         omega) (tT dG)
        simp only[Nat.add_zero]at c8;have Ox:(T.bH dt).length=new.length*aY E.P e:=by rw[kg vb,ky]
        have n6:(T.bH ts++sp).take (es.length*aY E.P e)++T.bH dt++(T.bH ts++sp).drop (es.length*aY E.P e+(T.bH dt).length)=T.bH (ts++dt)++sp.drop (new.length*aY E.P e):=by
         have yZ:es.length*aY E.P e=(T.bH ts).length:=by rw[oS,eU]
         rw[yZ,List.take_left,List.drop_length_add_append,T.tP,Ox]
        rw[n6]at c8;refine⟨.slice (some ⟨g,0,none⟩) (es.length+new.length) cap,w.setRow g (T.bH (ts++dt)++sp.drop (new.length*aY E.P e)).toArray,?_,.inl ⟨?_,_,_,_,_,rfl,rfl⟩⟩
        .rw [hr];simp only[Addr.add_plain,du,fO,Sem.run_bind,c8,Result.andThen_ok,Sem.run_pure]
        .let er:T:=.own g cap el (sp.drop (new.length*aY E.P e)) (ts++dt)
         have cg:=(e0.bd.perm fZ.symm).setRow (L':=(T.bH (ts++dt)++sp.drop (new.length*aY E.P e)).toArray);have u6:M g=none:=e0.bd.apart (g,.cells (T.bH ts++sp).toArray el (0,0)) (by simp[T.blocks]);have Ex:((g,Obj.cells (T.bH (ts++dt)++sp.drop (new.length*aY E.P e)).toArray el (0,0))::(a8 cr++(T.cO (ts++dt)))).Perm (a8 cr++(er.blocks++[])):=by
          simp only[er,T.blocks,ba];exact List.perm_middle.symm
         have hinv:Inv n R M bN cr (er.blocks++[]) a (w.setRow g (T.bH (ts++dt)++sp.drop (new.length*aY E.P e)).toArray):=
          e0.world (Mem.le_refl M) (cg.perm Ex) (e0.mem.setRow u6 _)
         have ng:T.wf M er:=by
          simp only[er,T.wf];refine⟨⟨aY E.P e,oY,?_,?_⟩,?_,hp,λx U=>oh x (List.mem_of_mem_drop U),?_⟩
          .intro e' he;rcases aM.1 he with he|he
           .exact hM e' he
           .exact vb e' he
          .have:(es.length+new.length)*aY E.P e<=cap*aY E.P e:=dn _ qN;rw[cD]at this;simp only[List.length_drop,aA,eU,ky,cD];omega
          .simp only[aA,eU,ky];omega
          .rw [T.mR]at qR dG⊢;intro x U;rcases aM.1 U with U|U
           .exact qR x U
           .exact dG x U
         have rR:g∈keys (a8 cr++(T.cO dt++((T.own g cap el sp ts).blocks++[]))):=by
          exact(fZ.map cz).mem_iff.1 (aQ.2 ⟨_,List.mem_cons_self,rfl⟩)
         have ia:∀k∈keys (a8 cr++(T.cO dt++((T.own g cap el sp ts).blocks++[]))),k∈keys (a8 G):=λk aj=>by
          have I:=nV k aj;have aa:=gi k I;simpa[keys]using aa
         have:=kM (M:=M) (w:=w) (B:=keys (a8 G)) hinv (show er.tidy by
          simp only[er,T.tidy,T.q4]at qQ ck⊢;intro x U;rcases aM.1 U with U|U
          .exact qQ x U
          .exact ck x U) (p6 (show dV M er from ng)) dst ah (((cN.refl M (keys (a8 G)) w).setRow (ia g rR) _).weaken λk aj=>by
           refine ia k ?_;have I:=(Ex.map cz).mem_iff.2 aj;have aa:k∈((g,Obj.cells (T.bH ts++sp).toArray el (0,0))::(a8 cr++(T.cO (ts++dt)))).map cz:=by simpa using I
           exact(fZ.map cz).mem_iff.1 aa)
         simp only[er,T.erase,T.lU,cx,a5,cF,T.val,aA,eU,ky]at this;exact this
       .obtain ⟨v,w',r1,r2⟩:=grown (some ⟨g,0,none⟩) cap ts a5 qQ qR hM (by omega) (by
         intro w' pO;refine run_firstCells_some w' i.size _ ⟨g,0,none⟩ _ cap _ (by rw[oS,eU,fO]) λj v av=>?_;rw[Addr.add_plain];have aH:=(b5.1 av).1;rw[cell_of_row w' g (0+j) _ el (0,0) (by rw[pO];exact rO)];simp only[du,c_];rw[cc aH];exact av
        ) (by
         refine e0.less (rest:=[(g,Obj.cells (T.bH ts++sp).toArray el (0,0))]) ?_;simp only[T.blocks,ba,T.sX];rw[List.append_assoc];refine bB ?_ a6;refine List.perm_append_comm_assoc _ _ _ |>.trans ?_
         refine bB (cT _ a6 |>.trans ?_) (List.Perm.refl _);refine bB a6 ?_;simp
        )
        refine⟨v,w',r1,.inr ⟨_,?_,?_,r2⟩⟩
        .intro k aj;have I:k∈keys (a8 cr++(T.cO dt++((T.own g cap el sp ts).blocks++[]))):=by
          simp only[T.blocks,keys,T.sX,cx,aM,ba,bo,List.mem_cons]at aj⊢;rcases aj with aj|aj|aj
          .exact .inl aj
          .exact .inr (.inr (.inr aj))
          .exact .inr (.inl aj)
         have aa:=gi k (nV k I);simpa[keys]using aa
        .intro fG xr wU he;simp only[Value.slice.injEq,aE,Addr.mk.injEq,and_true]at he;obtain⟨rfl,_,_⟩:=he;have l6:=(e0.bd.perm fZ.symm).nodup;simp only[bo,List.nodup_cons]at l6;simpa[keys]using l6.1
      .subst aT a5;simp only[T.val];by_cases hm:new.length=0
       .have hr:=FX (ty:=ty) gq hu i1 fh (base:=none) (sLen:=0) (sCap:=0) (by omega);have Ba:new=[]:=bL hm;have EH:dt=[]:=bL (by omega);subst Ba EH;refine⟨.slice none 0 0,w,by rw[hr];simp,.inl ⟨?_,_,_,_,_,rfl,rfl⟩⟩;have:=kM (M:=M) (w:=w) (B:=keys (a8 G)) (t:=.nil) (by simpa[T.blocks,T.cO]using e0) (by simp[T.tidy]) (by simp[fg,T.wf]) dst ah (cN.mf M w λk aj=>by
         have I:k∈(a8 cr++(T.cO []++(T.nil.blocks++[]))).map cz:=by simpa[T.blocks,T.cO,keys]using aj
         have aa:=gi k (nV k I)
         simpa[keys]using aa)
        simpa[T.erase,T.val]using this
       .obtain ⟨v,w',r1,r2⟩:=grown none 0 [] rfl trivial trivial (by simp) (by simp;omega) (by intro w' _;simp[Builtin.firstCells,T.bH]) (by simpa[T.blocks]using e0);refine⟨v,w',r1,.inr ⟨_,?_,λg xr wU he=>by simp at he,r2⟩⟩;intro k aj;have I:k∈(a8 cr++(T.cO dt++(T.nil.blocks++[]))).map cz:=by simpa[T.blocks,keys]using aj
        have aa:=gi k (nV k I);simpa[keys]using aa
    |_=>simp[aj]at aC
theorem acI{a:Act}{r:Nat}{v:Value}(h:a.tmps[r]?=some v):a.put (some r) v=a:=by
 obtain⟨t,az⟩:=a;simp only[Act.put,Act.mk.injEq,and_true];refine Array.ext_getElem? λi=>?_;rw[Array.getElem?_setIfInBounds];by_cases hi:r=i
 .subst hi;have bU:=(b3.1 h).1;simp only at h bU;rw[if_pos rfl,if_pos bU,h]
 .rw [if_neg hi]
theorem Inv.tell(h:Inv n R M F G [] a w){r:Nat}(hr:r<n)(au:(aS.get F r).quiet=true){d:D}{v:Value}(av:a.tmps[r]?=some v)(al:(T.leaf d v).tidy)(ae:fg M G (.leaf d v)):∃bS,Inv n R M (cf F r d) bS [] a w/\∀g∈keys (a8 bS),g∈keys (a8 G):=by
 have aO:Inv n R M F G ((T.leaf d v).blocks++[]) a w:=by simpa[T.blocks]using h
 obtain⟨bS,I,aa⟩:=Inv.put aO al ae (some r) (λq au=>by cases au;exact hr);have e:fin F (some r) (T.leaf d v).erase=cf F r d:=by
  simp only[fin,T.erase,aS.put,au,if_true]
 have a5:a.put (some r) (T.leaf d v).val=a:=acI av;rw[e,a5]at I;refine⟨bS,I,λg ak=>?_⟩;have:=aa g (by simpa[keys]using ak);simpa[T.blocks,keys]using this
theorem C_{E:Env}{f:Nat}{V:List Nat}{call:Nat->List D->Option (D×List D)}(cn:lL E call)(ef:Good E M){ops:Array Oper}(dM:rn n ops){Q:Exit->Act->World->Prop}{rest:List Nat}:∀(l:List Nat){F:Fr}{a:Act}{w:World},cJ n R M B w0 F a w->fQ E f V call ops l F=some aD ->
  (∀cp w',cJ n R M B w0 aD cp w'->wpOps E.P ops Q rest cp w')->wpOps E.P ops Q (l++rest) a w
 |[],F,a,w,h,aP,cl=>by
  simp only[fQ,aE]at aP;subst aP;exact cl _ _ h
 |i::l,F,a,w,h,aP,cl=>by
  simp only[fQ]at aP;rw[eb,wpOps_cons];unfold wpOp;cases an:ops[i]? with
  |none=>simp only[an]at aP⊢;exact C_ cn ef dM l h aP cl
  |some o=>
   simp only[an]at aP⊢;obtain⟨b1,bQ,I,aT⟩:=h;cases hw:fV ops F o with
   |none=>simp[hw]at aP
   |some x=>
    rw[Kr I dM.guard hw];cases x with
    |true=>
     simp only[hw]at aP;cases ad:cV E f V call F o with
     |none=>simp[ad]at aP
     |some aX=>
      simp only[ad]at aP;simp only[if_true];exact .inl (Mb cn (ef.mono aT.iW) I (dM i o an) ad λcp w' af=>C_ cn ef dM l (af.trans aT) aP cl)
    |false=>
     simp only[hw]at aP;simp only[Bool.false_eq_true,if_false];exact C_ cn ef dM l ((vR I o.dst (dM i o an).2 (cN.refl b1 _ w)).trans aT) aP cl
theorem abc{L:List Value}:∀{ts:List (List T)},T.iv ts->T.ha M ts->ts.map (·.map T.erase)=L.map (λv=>[D.lit v])->T.bH ts=L:=by
 induction L with
 |nil=>intro ts _ _ h;cases ts with
  |nil=>rfl
  |cons x ts=>simp at h
 |cons v L aN=>
  intro ts e6 ng h;cases ts with
  |nil=>simp at h
  |cons x ts=>
   simp only[bo,List.cons.injEq]at h;have U:∃t,x=[t]/\t.erase=.lit v:=by
    match x,h.1 with
    |[t],I=>exact⟨t,rfl,by simpa using I⟩
    |[],I=>simp at I
    |_::_::_,I=>simp at I
   obtain⟨t,rfl,al⟩:=U;have hl:=xN al rfl (by simp) (by simp);have hw:T.wf M t:=ng.1.1;rw[hl]at hw;have av:t.val=v:=by
    rcases hw with⟨aO,_⟩|aO
    .cases aO
    .simp only[bu]at aO;exact aO.1
   simp only[T.bH,T.bP,aN e6.2 ng.2 h.2,av,eb,List.nil_append]
theorem SU:∀{L:List Value},(∀v∈L,v.oneCell'=true)->fo M (L.map λv=>[D.lit v]) L
 |[],_=>by simp[fo]
 |v::L,h=>by
  simp only[bo,fo];refine⟨[v],L,rfl,?_,SU λu hu=>h u (by simp[hu])⟩;simp only[c4];exact⟨v,[],rfl,by simp only[bu];exact⟨trivial,h v (by simp)⟩,rfl⟩
theorem bG.split{E:Env}{f:Nat}{V:List Nat}{call:Nat->List D->Option (D×List D)}(cn:lL E call){id:Nat}{ops:Array Oper}{bN lR jf:Fr}{l wQ Hy:List Nat}{i j s r m d t u:Nat}{xu I6:Oper}{x y:Operand}{L:List Value}{AQ es':List (List D)}{Q:dU->Fr->Prop}(aiO:AQ=L.map λv=>[.lit v])
  (Ez:List.range ops.size=l++[i,j]) (I:fQ E f V call ops l F=some bN) (pC:aS.get bN r=.sub s [] 0 m) (u7:aS.get bN s=.own AQ) (cq:L≠[]) (ail:wQ.Nodup) (VK:Hy.Nodup)
  (hi:ops[i]?=some xu) (Ix:xu.op=.call { callee:=.builtin .append,args:=#[x,y],argTypes:=#[t,u] }) (aiS:xu.guard=none) (NC:xu.dst=some d) (hu:nw E.P u=true) (U:aZ E bN x=some (.alias s [])) (aa:rC E (norm wQ bN) t (some d) x y=some lR)
  (aH:ops[j]?=some I6) (ajE:I6.op=.assign (.tmp d)) (NL:I6.guard=none) (rP:I6.dst=some s) (Ed:d≠r) (Oi:s≠r) (tp:r<n) (jK:s<n) (ND:d<n)
  (aB:rD E f V lR (some s) (.tmp d)=some jf) (aW:aS.get jf s=.own es') (fk:es'≠[]) (hm:m<=es'.length) (ams:m<=L.length) (WG:(aS.get jf r).quiet=true)
  (akE:Q .normal (norm Hy (cf jf r (.sub s [] 0 m)))) (W1:Q .normal (norm Hy (cf jf r (.sl (AQ.take m))))):bG E n (.region id ops false) F Q:=by
 subst aiO;rw[<-List.map_take]at W1;intro R M B w0 a w ei hf ak af cl;refine wp_region ?_;rw[Ez];refine C_ cn ak hf l af I λbA w2 mF=>?_;rw[wpOps_cons];unfold wpOp;simp only[hi];rw[if_pos (by unfold Region.wanted;simp[aiS])];refine .inl ?_;obtain⟨M2,cr,i2,a5⟩:=mF;have Bl:bA.eval x=(bg cr s).val/\(bg cr s).node=true:=by
  have:=i2.aZ (hf i xu hi |>.1 x (by rw[Ix];simp[Op.operands,Call.operands])) U;simp only[de,fm,aJ,T.bw,aE]at this;obtain⟨q,rfl,ao,av⟩:=this;exact⟨av,ao⟩
 have ID:=xN (t:=bg cr r) (d:=.sub s [] 0 m) (by rw[<-i2.get];exact pC) rfl (by simp) (by simp);have Oj:wA (bg cr s) 0 m (bg cr r).val:=by
  have:=i2.iJ r;rw[ID]at this;simp only[fg,fm,aJ,T.bw,aE]at this;obtain⟨q,rfl,_,au⟩:=this;exact au
 have IG:bA.tmps[r]?=some (bg cr r).val:=i2.FB tp pC (by simp);generalize(bg cr r).val=FF at Oj IG ID;have yT:(bg cr s).erase=.own (L.map λv=>[.lit v]):=by rw[<-i2.get];exact u7
 obtain⟨g,cap,el,sp,ts,rK,Vg⟩:∃g cap e sp ts,bg cr s=.own g cap e sp ts/\ts.map (·.map T.erase)=L.map λv=>[D.lit v]:=by
  rcases om (i2.jq s) yT with aU|⟨_,aU⟩
  .exact aU
  .exact absurd (List.map_eq_nil_iff.1 aU) cq
 have ng:T.wf M2 (.own g cap el sp ts):=by have:=i2.iJ s;rw[rK]at this;exact this
 have e6:T.iv ts:=by have:=i2.jq s;rw[rK]at this;exact this
 have lz:T.bH ts=L:=abc e6 ng.2.2.2.2 Vg;have hlen:ts.length=L.length:=by have:=congrArg List.length Vg;simpa using this
 rw[rK]at Bl Oj;have WU:FF=.slice (some ⟨g,0,none⟩) m cap:=by
  obtain⟨A,xr,c,k,es,A',b_,cM,fI,oY,Jd,zr,alg,Xi⟩:=Oj;simp only[T.val,Value.slice.injEq]at b_;obtain⟨rfl,rfl,rfl⟩:=b_;rcases Xi with rfl|⟨_,Xi⟩
  .rw [alg];simp[Addr.add_plain]
  .omega
 have ajG:∀v∈L,v.oneCell'=true:=by
  rw[<-lz];exact tT ng.2.2.2.2
 have dI:w2.heap[g]?=some (.cells (L++sp).toArray el (0,0)):=by
  have:=(i2.block (s:=s) (ps:=[]) (x:=bg cr s) rfl (b:=(g,.cells (T.bH ts++sp).toArray el (0,0))) (by rw[rK];simp[T.blocks])).1;rw[lz]at this;exact this
 have H7:(g,Obj.cells (T.bH ts++sp).toArray el (0,0))∈a8 cr:=(i2.block (s:=s) (ps:=[]) (x:=bg cr s) rfl (b:=(g,.cells (T.bH ts++sp).toArray el (0,0))) (by rw[rK];simp[T.blocks])).2;have yM:M2 g=none:=i2.bd.apart (g,Obj.cells (T.bH ts++sp).toArray el (0,0)) (by simp[H7]);have Wb:g<w2.heap.size:=(b3.1 dI).1;obtain⟨al0,i3,cS⟩:=C9 i2 ail;have Ih:=hf i xu hi;obtain⟨v,hp,gA,xb⟩:=ZH (ty:=xu.type) i3 (Ih.1 x (by rw[Ix];simp[Op.operands,Call.operands])) (Ih.1 y (by rw[Ix];simp[Op.operands,Call.operands])) hu (some d) (λq au=>by cases au;exact ND) aa;refine gZ (v:=v) (w':=hp) ?_ ?_
 .simp only[execOp,Ix,resolve,Sem.run_bind,Sem.run_pure,Result.andThen_ok,invoke,builtin,List.map_toArray,bo,List.map_nil,gA]
 rw[wpOps_cons];unfold wpOp;simp only[aH];rw[if_pos (by unfold Region.wanted;simp[NL])];refine .inl (gZ (v:=(bA.put xu.dst v).eval (.tmp d)) (w':=hp) (by simp only[execOp,ajE,Sem.run_pure]) ?_);rw[NC,rP];have fO:bA.tmps.size=n:=i2.size;have dk:=Lk (v:=v) fO ND;have eT:(bA.put (some d) v).eval (.tmp d)=v:=by
  simp only[Act.eval,Array.getD_eq_getD_getElem?,dk.2.1,Option.getD_some]
 have ea:=Lk (v:=(bA.put (some d) v).eval (.tmp d)) dk.1 jK;have WV:((bA.put (some d) v).put (some s) ((bA.put (some d) v).eval (.tmp d))).tmps[r]?=some FF:=by
  rw[ea.2.2 r (Ne.symm Oi),dk.2.2 r (Ne.symm Ed)];exact IG
 have ake:((bA.put (some d) v).put (some s) ((bA.put (some d) v).eval (.tmp d))).tmps[s]?=some v:=by
  rw[ea.2.1,eT]
 have V9:Fits n (.tmp d):=λq au=>by cases au;exact ND
 have fq:∀q,some s=some q->q<n:=λq au=>by cases au;exact jK
 rcases xb with⟨⟨nR,jg,i4,eK⟩,A,xr,sa,c,c2,av⟩|⟨Tv,ia,ajv,nR,jg,i4,eK⟩
 .obtain ⟨uE,wM,i5,jk⟩:=Kt i4 V9 (some s) fq aB;have vg:=i5.FB jK aW (by simp);rw[ake,aE]at vg;obtain⟨fG,MT,ahb,Ce,gM,HQ,M1⟩:∃g cap e sp ts,bg wM s=.own g cap e sp ts/\ts.map (·.map T.erase)=es':=by
   rcases om (i5.jq s) (by rw[<-i5.get];exact aW)with aU|⟨_,aU⟩
   .exact aU
   .exact absurd aU fk
  have zc:T.wf uE (.own fG MT ahb Ce gM):=by have:=i5.iJ s;rw[HQ]at this;exact this
  have y1:gM.length=es'.length:=by rw[<-M1];simp
  rw[c2]at Bl;have ib:=Bl.1;rw[av,HQ]at vg;simp only[T.val,Value.slice.injEq]at vg ib;obtain⟨rfl,rfl,rfl⟩:=ib;obtain⟨Wa,_,rfl⟩:=vg;simp only[aE,Addr.mk.injEq,and_true]at Wa;subst Wa;obtain⟨k,_,aj,_⟩:=zc.1;have vh:fg uE wM (.leaf (.sub s [] 0 m) FF):=by
   refine⟨bg wM s,rfl,by rw[HQ];rfl,?_⟩;rw[HQ];refine⟨_,_,_,k,es',some ⟨g,0,none⟩,rfl,.inl (by simp only[T.erase,T.lU,M1]),y1.symm,?_,by omega,zc.2.1.1,by rw[WU];simp,.inl (by simp[Addr.add_plain])⟩;intro e he;rw[<-M1]at he;obtain⟨q,au,rfl⟩:=aQ.1 he;simpa using aj q au
  obtain⟨Ms,i6,gi⟩:=i5.tell tp WG WV (by simp[T.tidy]) vh;refine cl .normal _ _ _ akE ?_;exact cJ.norm ⟨uE,Ms,i6,a5.trans (((cN.mf M2 w2 cS).trans eK).trans (jk.weaken gi))⟩ VK
 .have rR:g ∉ Tv:=ajv g _ _ Bl.1;have aiW:hp.heap[g]?=w2.heap[g]?:=eK.out g Wb rR;have VD:nR g=none:=by
   cases au:nR g with
   |none=>rfl
   |some o=>
    rcases eK.jC g o au with h|h|h
    .rw [yM]at h;cases h
    .exact absurd h rR
    .omega
  have VC:g ∉ keys (a8 jg):=λau=>by
   rcases eK.own g au with h|h
   .exact rR h
   .omega
  obtain⟨uE,wM,i5,jk⟩:=Kt i4 V9 (some s) fq aB;have amk:g<hp.heap.size:=Nat.lt_of_lt_of_le Wb eK.size;have aie:uE g=none:=by
   cases au:uE g with
   |none=>rfl
   |some o=>
    rcases jk.jC g o au with h|h|h
    .rw [VD]at h;cases h
    .exact absurd h VC
    .omega
  have ah7:g ∉ keys (a8 wM):=λau=>by
   rcases jk.own g au with h|h
   .exact VC h
   .omega
  let pU:Obj:=.cells (L++sp).toArray el (0,0)
  let sP:Mem:=λq=>if q=g then some pU else uE q
  have hle:uE.le sP:=λq o au=>by
   have:q≠g:=by rintro rfl;rw[aie]at au;cases au
   simp only[sP,this,if_false];exact au
  have ajD:hp.heap[g]?=some pU:=by rw[aiW,dI]
  have aku:Inv n R sP jf wM [] _ hp:=i5.world hle ⟨i5.bd.nodup,i5.bd.heap,λq au=>by
   have:q.1≠g:=by
    rintro he;refine ah7 ?_;rw[<-he];rw[ba]at au;exact aQ.2 ⟨q,au,rfl⟩
   simp only[sP,this,if_false];exact i5.bd.apart q au⟩ (λq o au=>by
    simp only[sP]at au
    split at au
    .rename_i he;subst he;cases au;exact ajD
    .exact i5.mem q o au)
  have vh:fg sP wM (.leaf (.sl ((L.take m).map λv=>[.lit v])) FF):=by
   show bu sP (.sl ((L.take m).map λv=>[.lit v])) FF;simp only[bu];have ad:=ng.2.1.1;refine⟨some ⟨g,0,none⟩,m,cap,WU,by simp;omega,by rw[hlen]at ad;omega,by have:=ng.2.2.1;rw[hlen]at ad;omega,.inr ⟨g,0,1,L.take m,rfl,?_,by omega,?_,SU λv av=>ajG v (List.mem_of_mem_take av)⟩⟩
   .refine ⟨(L++sp).toArray,el,(0,0),by simp[sP,pU],λq amK au=>?_⟩;rw[du,c_];have bU:=(b5.1 au).1;rw[List.getElem?_take]at au
    split at au
    .rw [cc (by rw[List.length_take]at bU;omega)];exact au
    .cases au
   .intro q au;obtain⟨_,_,rfl⟩:=aQ.1 au;rfl
  obtain⟨Ms,i6,gi⟩:=aku.tell tp WG WV (by simp[T.tidy]) vh;refine cl .normal _ _ _ W1 ?_;refine cJ.norm ⟨sP,Ms,i6,a5.trans ?_⟩ VK;have eT:cN M2 (keys (a8 cr)) w2 uE (keys (a8 wM)) hp:=by
   refine(cN.mf M2 w2 (B':=Tv) λq au=>cS q (ia q au)).trans (eK.trans jk)
  refine { eT with iW:=λq o au=>hle q o (eT.iW q o au),jC:=λq o au=>?_,own:=λq au=>eT.own q (gi q au) };simp only[sP]at au
  split at au
  .rename_i he;subst he;refine .inr (.inl ?_);exact aQ.2 ⟨_,H7,rfl⟩
  .exact eT.jC q o au
end
end Go.aS
