/- An interpreter of function bodies, sound. No conditions. -/
import Derived.Test.YtmiedlcblpiemaaGreatDoorOwn18
import Derived.Test.YtmiedlcblpiemaaGreatDoorOwn5
set_option linter.all false
open List renaming length_append->zA,mem_append->zB,mem_map->zC,perm_append_comm->zD,append_nil->zE,map_cons->zF,eq_nil_of_length_eq_zero->zH,getElem?_eq_some_iff->zK,getElem?_append_left->zL,eq_of_mem_replicate->zM,map_append->zO,replicate->zQ,getElem?_toArray->zS,all_eq_true->zV,cons_append->zW
open List.Perm renaming trans->zG,append_left->zR
open Array renaming getElem?_eq_some_iff->zI
open Prod renaming fst->zN
open Nat renaming add_mul->zP,mul_le_mul_right->zT,zero_add->zU
namespace Go.Own
open D
section
variable{n:Nat}{R:Nat->Value}{M:Mem}{F F':Fr}{G:FT}{H:Blks}{a:Act}{w w0:World}{B:List Nat}
theorem Bd6{E:Env}(h:Inv n R M F G [] a w){t u ty:Nat}{x y:Operand}(hx:Fits n x)(hy:Fits n y)(hu:rowT E.P u=true)(dst:Option Nat)(hd:∀d,dst=some d->d<n)(ha:appendC E F t dst x y=some F'):
  ∃v w',(Builtin.append_ #[t,u] ty #[a.eval x,a.eval y]).run E.P w=.ok v w'/\((Post n R M (keys (Aa0 G)) w F' (a.put dst v) w'/\∃A n0 n1 c,a.eval x=.slice A n0 c/\v=.slice A n1 c) ∨
   ∃B,(∀g∈B,g∈keys (Aa0 G))/\(∀g n0 c,a.eval x=.slice (some ⟨g,0,none⟩) n0 c->g ∉ B)/\Post n R M B w F' (a.put dst v) w'):=by
 simp only[appendC]at ha;cases hs:sliceT E.P t with
 |none=>simp[hs]at ha
 |some e=>
  simp only[hs]at ha;cases hzz:zeroT E.P e with
  |none=>simp[hzz]at ha
  |some z=>
   simp only[hzz]at ha;cases hk:takeOp E F x with
   |none=>simp[hk]at ha
   |some r=>
    obtain⟨dx,F1⟩:=r;cases dx with
    |own es=>
     simp only[hk]at ha;cases hn:newElems E F1 y with
     |none=>simp[hn]at ha
     |some q=>
      obtain⟨new,F2⟩:=q;simp only[hn]at ha
      split at ha
      case isFalse=>cases ha
      rename_i hc;obtain⟨q1,q2,q3,q4,q5,q6⟩:=hc;simp only[zJ]at ha;subst ha;obtain⟨tx,G1,b1,b2,b3,b4,b5,b6⟩:=Af9 h hx hk;obtain⟨tn,G2,c1,c2,c3,c4,c5,c6⟩:=Arz b5 hy hn q6 q4;obtain⟨i,zv,uz,i1,i2,i3,i4,i5,i6,i7⟩:=Agk (M:=M) hzz;obtain⟨z1,z2,z3,z4,z5⟩:=Ad6 i6 i5;have hsz:i.size=sizeT E.P e:=by simp[sizeT,i1]
      have hby:i.bytes=bytesT E.P e:=by simp[bytesT,i1]
      have hzl:zv.cells.size=sizeT E.P e:=by
       rw[<-q3,<-i3,<-z1,<-i4];have:=congrArg List.length z2;simp at this⊢;omega
      rw[<-hsz]at c4;have hut:=Adk hs;rw[<-b2];have hmn:tn.length=new.length:=by rw[<-c1];simp
      have hkn:∀e'∈tn,e'.length=sizeT E.P e:=by
       intro e' he;have:=zV.1 q6 (e'.map T.erase) (by rw[<-c1];exact zC.2 ⟨e',he,rfl⟩);simpa using this
      have grown:∀(base:Option Addr)(sCap:Nat)(to:List (List T)),to.map (·.map T.erase)=es->T.tidyE to->T.wfE M to->(∀e'∈to,e'.length=sizeT E.P e)->sCap<es.length+new.length ->
        (∀w',w'.heap=w.heap->(Builtin.firstCells i.size es.length (.slice base es.length sCap)).run E.P w'=.ok (T.valsE to).toArray w') ->
        Inv n R M F2 G2 (T.blocksE (to++tn)++[]) a w ->
        ∃v w',(Builtin.append_ #[t,u] ty #[.slice base es.length sCap,a.eval y]).run E.P w=.ok v w'/\Post n R M (keys (Aa0 G2++(T.blocksE (to++tn)++[]))) w (fin F2 dst (.own (es++new))) (a.put dst v) w':=by
       intro base sCap to t1 t2 t3 t4 t5 t6 t7;have hlo:to.length=es.length:=by rw[<-t1];simp
       have hr:=Alb (ty:=ty) hut hu i1 i2 c4 t6 t5 (by omega) (growslice_fits t5 (by rw[hby];exact q1));refine⟨_,_,hr,?_⟩;have hge:=grownCap_ge w (es.length+new.length) sCap e;have hcm:grownCap w (es.length+new.length) sCap e<=maxLen:=grownCap_le_maxLen w _ sCap e (by simp[maxLen];omega);generalize hC:grownCap w (es.length+new.length) sCap e=C at hge hcm;have hcells:(T.valsE to).toArray++(T.valsE tn).toArray++Builtin.zeroCells zv.cells (C-(es.length+new.length))=(T.valsE (to++tn)++T.valsE (zQ (C-(es.length+new.length)) uz.cells)).toArray:=by
        apply Array.ext';rw[Af5];simp only[Array.toList_append,T.valsE_append];rw[Ade _ (by omega),Adu,z2,i4]
       rw[hcells];have hwid:∀e'∈to++tn,e'.length=sizeT E.P e:=by
        intro e' he;rcases zB.1 he with he|he
        .exact t4 e' he
        .exact hkn e' he
       have hul:uz.cells.length=sizeT E.P e:=by rw[<-q3,<-i3,<-z1];simp
       have hw:T.wf M (.own w.heap.size C e (T.valsE (zQ (C-(es.length+new.length)) uz.cells)) (to++tn)):=by
        simp only[T.wf];refine⟨⟨sizeT E.P e,q4,hwid,?_⟩,by simp only[zA,hlo,hmn];omega,hcm,?_,?_⟩
        .rw [Aay (k:=sizeT E.P e) (by intro x hx;rw[zM hx];exact hul)];simp only[List.length_replicate,zA,hlo,hmn,<-zP];congr 1;omega
        .refine Acx (M:=M) ?_;rw[T.wfE_iff];intro x hx;rw[zM hx];exact z4
        .rw [T.wfE_iff]at t3 c3⊢;intro x hx;rcases zB.1 hx with hx|hx
         .exact t3 x hx
         .exact c3 x hx
       have hdrew:Inv n R M F2 G2 (T.blocksE (to++tn)++[]) a w.drew:=t7.heapEq rfl;have:=Ak9 (B:=keys (Aa0 G2++(T.blocksE (to++tn)++[]))) (w0:=w) hdrew C e (T.valsE (zQ (C-(es.length+new.length)) uz.cells)) (by
        rw[T.tidyE_iff]at t2 c2⊢;intro x hx;rcases zB.1 hx with hx|hx
        .exact t2 x hx
        .exact c2 x hx) hw dst hd ((Evo.refl' M w fun g hg=>hg).heapEq (w2:=w.drew) rfl rfl rfl rfl)
       rw[zO,t1,c1,zA,hlo,hmn]at this;exact this
      rcases Acp b3 b1 with⟨g,cap,el,sp,ts,e1,e2⟩|⟨e1,e2⟩
      .subst e1;have hlo:ts.length=es.length:=by rw[<-e2];simp
       obtain⟨⟨k',hk'0,hk',hcap⟩,w2,w3,w4,w5⟩:=b4;have hks:∀e'∈ts,e'.length=sizeT E.P e:=by
        intro e' he;have:=zV.1 q5 (e'.map T.erase) (by rw[<-e2];exact zC.2 ⟨e',he,rfl⟩);simpa using this
       have hvl:=Aay hks;have hk2:sp.length+es.length*sizeT E.P e=cap*sizeT E.P e:=by
        rw[hlo]at hcap;by_cases hz:es.length=0
        .have hc0:cap=0:=w2.2 (by rw[hlo];exact hz);simp only[hz,hc0,Nat.zero_mul]at hcap⊢;exact hcap
        .have:k'=sizeT E.P e:=by
          cases ts with
          |nil=>simp at hlo;omega
          |cons x ts=>rw[<-hk' x (by simp),hks x (by simp)]
         rw[<-this];exact hcap
       have hwts:T.wfE M ts:=w5;have htts:T.tidyE ts:=b3;have hbg:w.heap[g]?=some (.cells (T.valsE ts++sp).toArray el (0,0)):=c5.blk.heap (g,.cells (T.valsE ts++sp).toArray el (0,0)) (by simp[T.blocks]);simp only[T.val,hlo];have hperm:((g,Obj.cells (T.valsE ts++sp).toArray el (0,0))::(Aa0 G2++(T.blocksE (ts++tn)))).Perm (Aa0 G2++(T.blocksE tn++((T.own g cap el sp ts).blocks++[]))):=by
        simp only[T.blocks,zE,T.blocksE_append];refine List.perm_middle.symm.trans ?_;refine zR _ ?_;refine zG ?_ zD;simp
       by_cases hroom:es.length+new.length<=cap
       .have hr:=Aij (ty:=ty) hut hu i1 c4 (base:=some ⟨g,0,none⟩) hroom;have hst:=run_storeCells_at E.P g (es.length*sizeT E.P e) el (T.valsE tn) 0 _ w hbg (by
         rw[Aay hkn,hmn];simp only[List.size_toArray,zA,hvl,hlo,Nat.add_zero];rw[<-zP];have:(es.length+new.length)*sizeT E.P e<=cap*sizeT E.P e:=zT _ hroom
         omega) (Acx c3)
        simp only[Nat.add_zero]at hst;have hvn:(T.valsE tn).length=new.length*sizeT E.P e:=by rw[Aay hkn,hmn]
        have hcells:(T.valsE ts++sp).take (es.length*sizeT E.P e)++T.valsE tn++(T.valsE ts++sp).drop (es.length*sizeT E.P e+(T.valsE tn).length)=T.valsE (ts++tn)++sp.drop (new.length*sizeT E.P e):=by
         have hl1:es.length*sizeT E.P e=(T.valsE ts).length:=by rw[hvl,hlo]
         rw[hl1,List.take_left,List.drop_length_add_append,T.valsE_append,hvn]
        rw[hcells]at hst;refine⟨.slice (some ⟨g,0,none⟩) (es.length+new.length) cap,w.setRow g (T.valsE (ts++tn)++sp.drop (new.length*sizeT E.P e)).toArray,?_,.inl ⟨?_,_,_,_,_,rfl,rfl⟩⟩
        .rw [hr];simp only[Addr.add_plain,zU,hsz,Sem.run_bind,hst,Result.andThen_ok,Sem.run_pure]
        .let tt:T:=.own g cap el (sp.drop (new.length*sizeT E.P e)) (ts++tn)
         have hB:=(c5.blk.perm hperm.symm).setRow (L':=(T.valsE (ts++tn)++sp.drop (new.length*sizeT E.P e)).toArray);have hgn:M g=none:=c5.blk.apart (g,.cells (T.valsE ts++sp).toArray el (0,0)) (by simp[T.blocks]);have hperm2:((g,Obj.cells (T.valsE (ts++tn)++sp.drop (new.length*sizeT E.P e)).toArray el (0,0))::(Aa0 G2++(T.blocksE (ts++tn)))).Perm (Aa0 G2++(tt.blocks++[])):=by
          simp only[tt,T.blocks,zE];exact List.perm_middle.symm
         have hinv:Inv n R M F2 G2 (tt.blocks++[]) a (w.setRow g (T.valsE (ts++tn)++sp.drop (new.length*sizeT E.P e)).toArray):=
          c5.world (Mem.le_refl M) (hB.perm hperm2) (c5.mem.setRow hgn _)
         have hwf:T.wf M tt:=by
          simp only[tt,T.wf];refine⟨⟨sizeT E.P e,q4,?_,?_⟩,?_,w3,fun x hx=>w4 x (List.mem_of_mem_drop hx),?_⟩
          .intro e' he;rcases zB.1 he with he|he
           .exact hks e' he
           .exact hkn e' he
          .have:(es.length+new.length)*sizeT E.P e<=cap*sizeT E.P e:=zT _ hroom;rw[zP]at this;simp only[List.length_drop,zA,hlo,hmn,zP];omega
          .simp only[zA,hlo,hmn];omega
          .rw [T.wfE_iff]at hwts c3⊢;intro x hx;rcases zB.1 hx with hx|hx
           .exact hwts x hx
           .exact c3 x hx
         have hgB:g∈keys (Aa0 G2++(T.blocksE tn++((T.own g cap el sp ts).blocks++[]))):=by
          exact(hperm.map zN).mem_iff.1 (zC.2 ⟨_,List.mem_cons_self,rfl⟩)
         have hsub:∀k∈keys (Aa0 G2++(T.blocksE tn++((T.own g cap el sp ts).blocks++[]))),k∈keys (Aa0 G):=fun k hk=>by
          have h1:=c6 k hk;have h2:=b6 k h1;simpa[keys]using h2
         have:=Acy (M:=M) (w:=w) (B:=keys (Aa0 G)) hinv (show tt.tidy by
          simp only[tt,T.tidy,T.tidyE_iff]at htts c2⊢;intro x hx;rcases zB.1 hx with hx|hx
          .exact htts x hx
          .exact c2 x hx) (Acw (show Giv M tt from hwf)) dst hd (((Evo.refl M (keys (Aa0 G)) w).setRow (hsub g hgB) _).weaken fun k hk=>by
           refine hsub k ?_;have h1:=(hperm2.map zN).mem_iff.2 hk;have h2:k∈((g,Obj.cells (T.valsE ts++sp).toArray el (0,0))::(Aa0 G2++(T.blocksE (ts++tn)))).map zN:=by simpa using h1
           exact(hperm.map zN).mem_iff.1 h2)
         simp only[tt,T.erase,T.eraseE_eq,zO,e2,c1,T.val,zA,hlo,hmn]at this;exact this
       .obtain ⟨v,w',r1,r2⟩:=grown (some ⟨g,0,none⟩) cap ts e2 htts hwts hks (by omega) (by
         intro w' hw';refine run_firstCells_some w' i.size _ ⟨g,0,none⟩ _ cap _ (by rw[hvl,hlo,hsz]) fun j v hv=>?_;rw[Addr.add_plain];have hj:=(zK.1 hv).1;rw[cell_of_row w' g (0+j) _ el (0,0) (by rw[hw'];exact hbg)];simp only[zU,zS];rw[zL hj];exact hv
        ) (by
         refine c5.less (rest:=[(g,Obj.cells (T.valsE ts++sp).toArray el (0,0))]) ?_;simp only[T.blocks,zE,T.blocksE_append];rw[List.append_assoc];refine zG ?_ zD;refine List.perm_append_comm_assoc _ _ _ |>.trans ?_
         refine zG (zR _ zD |>.trans ?_) (List.Perm.refl _);refine zG zD ?_;simp
        )
        refine⟨v,w',r1,.inr ⟨_,?_,?_,r2⟩⟩
        .intro k hk;have h1:k∈keys (Aa0 G2++(T.blocksE tn++((T.own g cap el sp ts).blocks++[]))):=by
          simp only[T.blocks,keys,T.blocksE_append,zO,zB,zE,zF,List.mem_cons]at hk⊢;rcases hk with hk|hk|hk
          .exact .inl hk
          .exact .inr (.inr (.inr hk))
          .exact .inr (.inl hk)
         have h2:=b6 k (c6 k h1);simpa[keys]using h2
        .intro g' n0 c0 he;simp only[Value.slice.injEq,zJ,Addr.mk.injEq,and_true]at he;obtain⟨rfl,_,_⟩:=he;have hnd:=(c5.blk.perm hperm.symm).nodup;simp only[zF,List.nodup_cons]at hnd;simpa[keys]using hnd.1
      .subst e1 e2;simp only[T.val];by_cases hm:new.length=0
       .have hr:=Aij (ty:=ty) hut hu i1 c4 (base:=none) (sLen:=0) (sCap:=0) (by omega);have hn0:new=[]:=zH hm;have htn:tn=[]:=zH (by omega);subst hn0 htn;refine⟨.slice none 0 0,w,by rw[hr];simp,.inl ⟨?_,_,_,_,_,rfl,rfl⟩⟩;have:=Acy (M:=M) (w:=w) (B:=keys (Aa0 G)) (t:=.nil) (by simpa[T.blocks,T.blocksE]using c5) (by simp[T.tidy]) (by simp[Aat,T.wf]) dst hd (Evo.refl' M w fun k hk=>by
         have h1:k∈(Aa0 G2++(T.blocksE []++(T.nil.blocks++[]))).map zN:=by simpa[T.blocks,T.blocksE,keys]using hk
         have h2:=b6 k (c6 k h1)
         simpa[keys]using h2)
        simpa[T.erase,T.val]using this
       .obtain ⟨v,w',r1,r2⟩:=grown none 0 [] rfl trivial trivial (by simp) (by simp;omega) (by intro w' _;simp[Builtin.firstCells,T.valsE]) (by simpa[T.blocks]using c5);refine⟨v,w',r1,.inr ⟨_,?_,fun g n0 c0 he=>by simp at he,r2⟩⟩;intro k hk;have h1:k∈(Aa0 G2++(T.blocksE tn++(T.nil.blocks++[]))).map zN:=by simpa[T.blocks,keys]using hk
        have h2:=b6 k (c6 k h1);simpa[keys]using h2
    |_=>simp[hk]at ha
theorem Bin{a:Act}{r:Nat}{v:Value}(h:a.tmps[r]?=some v):a.put (some r) v=a:=by
 obtain⟨t,ds⟩:=a;simp only[Act.put,Act.mk.injEq,and_true];refine Array.ext_getElem? fun i=>?_;rw[Array.getElem?_setIfInBounds];by_cases hi:r=i
 .subst hi;have hlt:=(zI.1 h).1;simp only at h hlt;rw[if_pos rfl,if_pos hlt,h]
 .rw [if_neg hi]
theorem Inv.tell(h:Inv n R M F G [] a w){r:Nat}(hr:r<n)(hq:(Own.get F r).quiet=true){d:D}{v:Value}(hv:a.tmps[r]?=some v)(ht:(T.leaf d v).tidy)(hs:Aat M G (.leaf d v)):∃G',Inv n R M (put0 F r d) G' [] a w/\∀g∈keys (Aa0 G'),g∈keys (Aa0 G):=by
 have h0:Inv n R M F G ((T.leaf d v).blocks++[]) a w:=by simpa[T.blocks]using h
 obtain⟨G',h1,h2⟩:=Inv.put h0 ht hs (some r) (fun q hq=>by cases hq;exact hr);have e:fin F (some r) (T.leaf d v).erase=put0 F r d:=by
  simp only[fin,T.erase,Own.put,hq,if_true]
 have e2:a.put (some r) (T.leaf d v).val=a:=Bin hv;rw[e,e2]at h1;refine⟨G',h1,fun g hg=>?_⟩;have:=h2 g (by simpa[keys]using hg);simpa[T.blocks,keys]using this
theorem An8{E:Env}{f:Nat}{V:List Nat}{call:Nat->List D->Option (D×List D)}(hcall:Acr E call)(hgd:Good E M){ops:Array Oper}(hfit:Ag0 n ops){Q:Exit->Act->World->Prop}{rest:List Nat}:∀(l:List Nat){F:Fr}{a:Act}{w:World},Post n R M B w0 F a w->opsC E f V call ops l F=some F' ->
  (∀a' w',Post n R M B w0 F' a' w'->wpOps E.P ops Q rest a' w')->wpOps E.P ops Q (l++rest) a w
 |[],F,a,w,h,hop,hQ=>by
  simp only[opsC,zJ]at hop;subst hop;exact hQ _ _ h
 |i::l,F,a,w,h,hop,hQ=>by
  simp only[opsC]at hop;rw[zW,wpOps_cons];unfold wpOp;cases ho:ops[i]? with
  |none=>simp only[ho]at hop⊢;exact An8 hcall hgd hfit l h hop hQ
  |some o=>
   simp only[ho]at hop⊢;obtain⟨M1,G1,h1,e1⟩:=h;cases hw:wantedD ops F o with
   |none=>simp[hw]at hop
   |some x=>
    rw[Aoq h1 hfit.guard hw];cases x with
    |true=>
     simp only[hw]at hop;cases hc:opC E f V call F o with
     |none=>simp[hc]at hop
     |some F1=>
      simp only[hc]at hop;simp only[if_true];exact .inl (Bag hcall (hgd.mono e1.memle) h1 (hfit i o ho) hc fun a' w' hp=>An8 hcall hgd hfit l (hp.trans e1) hop hQ)
    |false=>
     simp only[hw]at hop;simp only[Bool.false_eq_true,if_false];exact An8 hcall hgd hfit l ((Ae5 h1 o.dst (hfit i o ho).2 (Evo.refl M1 _ w)).trans e1) hop hQ
theorem Bg4{L:List Value}:∀{ts:List (List T)},T.tidyE ts->T.wfE M ts->ts.map (·.map T.erase)=L.map (fun v=>[D.lit v])->T.valsE ts=L:=by
 induction L with
 |nil=>intro ts _ _ h;cases ts with
  |nil=>rfl
  |cons x ts=>simp at h
 |cons v L ih=>
  intro ts htd hwf h;cases ts with
  |nil=>simp at h
  |cons x ts=>
   simp only[zF,List.cons.injEq]at h;have hx:∃t,x=[t]/\t.erase=.lit v:=by
    match x,h.1 with
    |[t],h1=>exact⟨t,rfl,by simpa using h1⟩
    |[],h1=>simp at h1
    |_::_::_,h1=>simp at h1
   obtain⟨t,rfl,ht⟩:=hx;have hl:=Adw ht rfl (by simp) (by simp);have hw:T.wf M t:=hwf.1.1;rw[hl]at hw;have hv:t.val=v:=by
    rcases hw with⟨h0,_⟩|h0
    .cases h0
    .simp only[RI]at h0;exact h0.1
   simp only[T.valsE,T.vals,ih htd.2 hwf.2 h.2,hv,zW,List.nil_append]
theorem Ayo:∀{L:List Value},(∀v∈L,v.oneCell'=true)->REs M (L.map fun v=>[D.lit v]) L
 |[],_=>by simp[REs]
 |v::L,h=>by
  simp only[zF,REs];refine⟨[v],L,rfl,?_,Ayo fun u hu=>h u (by simp[hu])⟩;simp only[RCs];exact⟨v,[],rfl,by simp only[RI];exact⟨trivial,h v (by simp)⟩,rfl⟩
theorem ToM.split{E:Env}{f:Nat}{V:List Nat}{call:Nat->List D->Option (D×List D)}(hcall:Acr E call){id:Nat}{ops:Array Oper}{F2 F3 F4:Fr}{l V2 V3:List Nat}{i j s r m d t u:Nat}{oi oj:Oper}{x y:Operand}{L:List Value}{es0 es':List (List D)}{Q:Ex->Fr->Prop}(hes0:es0=L.map fun v=>[.lit v])
  (hrg:List.range ops.size=l++[i,j]) (h1:opsC E f V call ops l F=some F2) (hgr:Own.get F2 r=.sub s [] 0 m) (hgs:Own.get F2 s=.own es0) (hL:L≠[]) (hV2:V2.Nodup) (hV3:V3.Nodup)
  (hi:ops[i]?=some oi) (hoi:oi.op=.call { callee:=.builtin .append,args:=#[x,y],argTypes:=#[t,u] }) (hgi:oi.guard=none) (hdi:oi.dst=some d) (hu:rowT E.P u=true) (hx:opd E F2 x=some (.alias s [])) (h2:appendC E (norm V2 F2) t (some d) x y=some F3)
  (hj:ops[j]?=some oj) (hoj:oj.op=.assign (.tmp d)) (hgj:oj.guard=none) (hdj:oj.dst=some s) (hdr:d≠r) (hsr:s≠r) (hrn:r<n) (hsn:s<n) (hdn:d<n)
  (h3:assignC E f V F3 (some s) (.tmp d)=some F4) (h4:Own.get F4 s=.own es') (hes:es'≠[]) (hm:m<=es'.length) (hmL:m<=L.length) (hq4:(Own.get F4 r).quiet=true)
  (kA:Q .normal (norm V3 (put0 F4 r (.sub s [] 0 m)))) (kB:Q .normal (norm V3 (put0 F4 r (.sl (es0.take m))))):ToM E n (.region id ops false) F Q:=by
 subst hes0;rw[<-List.map_take]at kB;intro R M B w0 a w Qw hf hg hp hQ;refine wp_region ?_;rw[hrg];refine An8 hcall hg hf l hp h1 fun a2 w2 hp2=>?_;rw[wpOps_cons];unfold wpOp;simp only[hi];rw[if_pos (by unfold Region.wanted;simp[hgi])];refine .inl ?_;obtain⟨M2,G2,i2,e2⟩:=hp2;have hxv:a2.eval x=(getT G2 s).val/\(getT G2 s).node=true:=by
  have:=i2.opd (hf i oi hi |>.1 x (by rw[hoi];simp[Op.operands,Call.operands])) hx;simp only[VOK,LOK,L1,T.getP,zJ]at this;obtain⟨q,rfl,hn,hv⟩:=this;exact⟨hv,hn⟩
 have htr:=Adw (t:=getT G2 r) (d:=.sub s [] 0 m) (by rw[<-i2.get];exact hgr) rfl (by simp) (by simp);have hsr2:Alr (getT G2 s) 0 m (getT G2 r).val:=by
  have:=i2.okG r;rw[htr]at this;simp only[Aat,LOK,L1,T.getP,zJ]at this;obtain⟨q,rfl,_,hq⟩:=this;exact hq
 have hvr:a2.tmps[r]?=some (getT G2 r).val:=i2.slot_lit hrn hgr (by simp);generalize(getT G2 r).val=vr at hsr2 hvr htr;have hers:(getT G2 s).erase=.own (L.map fun v=>[.lit v]):=by rw[<-i2.get];exact hgs
 obtain⟨g,cap,el,sp,ts,eo,ets⟩:∃g cap e sp ts,getT G2 s=.own g cap e sp ts/\ts.map (·.map T.erase)=L.map fun v=>[D.lit v]:=by
  rcases Acp (i2.tidyG s) hers with hh|⟨_,hh⟩
  .exact hh
  .exact absurd (List.map_eq_nil_iff.1 hh) hL
 have hwf:T.wf M2 (.own g cap el sp ts):=by have:=i2.okG s;rw[eo]at this;exact this
 have htd:T.tidyE ts:=by have:=i2.tidyG s;rw[eo]at this;exact this
 have hvals:T.valsE ts=L:=Bg4 htd hwf.2.2.2.2 ets;have hlen:ts.length=L.length:=by have:=congrArg List.length ets;simpa using this
 rw[eo]at hxv hsr2;have hvr2:vr=.slice (some ⟨g,0,none⟩) m cap:=by
  obtain⟨A,n0,c,k,es,A',q1,q2,q3,q4,q5,q6,q7,q8⟩:=hsr2;simp only[T.val,Value.slice.injEq]at q1;obtain⟨rfl,rfl,rfl⟩:=q1;rcases q8 with rfl|⟨_,q8⟩
  .rw [q7];simp[Addr.add_plain]
  .omega
 have hone:∀v∈L,v.oneCell'=true:=by
  rw[<-hvals];exact Acx hwf.2.2.2.2
 have hblk:w2.heap[g]?=some (.cells (L++sp).toArray el (0,0)):=by
  have:=(i2.block (s:=s) (ps:=[]) (x:=getT G2 s) rfl (b:=(g,.cells (T.valsE ts++sp).toArray el (0,0))) (by rw[eo];simp[T.blocks])).1;rw[hvals]at this;exact this
 have hbm:(g,Obj.cells (T.valsE ts++sp).toArray el (0,0))∈Aa0 G2:=(i2.block (s:=s) (ps:=[]) (x:=getT G2 s) rfl (b:=(g,.cells (T.valsE ts++sp).toArray el (0,0))) (by rw[eo];simp[T.blocks])).2;have hMg:M2 g=none:=i2.blk.apart (g,Obj.cells (T.valsE ts++sp).toArray el (0,0)) (by simp[hbm]);have hglt:g<w2.heap.size:=(zI.1 hblk).1;obtain⟨G2',i3,b3⟩:=An6 i2 hV2;have hfo:=hf i oi hi;obtain⟨v,w3,hrun,hcase⟩:=Bd6 (ty:=oi.type) i3 (hfo.1 x (by rw[hoi];simp[Op.operands,Call.operands])) (hfo.1 y (by rw[hoi];simp[Op.operands,Call.operands])) hu (some d) (fun q hq=>by cases hq;exact hdn) h2;refine Aaa (v:=v) (w':=w3) ?_ ?_
 .simp only[execOp,hoi,resolve,Sem.run_bind,Sem.run_pure,Result.andThen_ok,invoke,builtin,List.map_toArray,zF,List.map_nil,hrun]
 rw[wpOps_cons];unfold wpOp;simp only[hj];rw[if_pos (by unfold Region.wanted;simp[hgj])];refine .inl (Aaa (v:=(a2.put oi.dst v).eval (.tmp d)) (w':=w3) (by simp only[execOp,hoj,Sem.run_pure]) ?_);rw[hdi,hdj];have hsz:a2.tmps.size=n:=i2.size;have p1:=Asw (v:=v) hsz hdn;have hev:(a2.put (some d) v).eval (.tmp d)=v:=by
  simp only[Act.eval,Array.getD_eq_getD_getElem?,p1.2.1,Option.getD_some]
 have p2:=Asw (v:=(a2.put (some d) v).eval (.tmp d)) p1.1 hsn;have hvr4:((a2.put (some d) v).put (some s) ((a2.put (some d) v).eval (.tmp d))).tmps[r]?=some vr:=by
  rw[p2.2.2 r (Ne.symm hsr),p1.2.2 r (Ne.symm hdr)];exact hvr
 have hvs4:((a2.put (some d) v).put (some s) ((a2.put (some d) v).eval (.tmp d))).tmps[s]?=some v:=by
  rw[p2.2.1,hev]
 have hfj:Fits n (.tmp d):=fun q hq=>by cases hq;exact hdn
 have hdst:∀q,some s=some q->q<n:=fun q hq=>by cases hq;exact hsn
 rcases hcase with⟨⟨M3,G3,i4,e4⟩,A,n0,n1,c,hA,hv⟩|⟨B3,hsub,hnin,M3,G3,i4,e4⟩
 .obtain ⟨M4,G4,i5,e5⟩:=Apb i4 hfj (some s) hdst h3;have hs4:=i5.slot_lit hsn h4 (by simp);rw[hvs4,zJ]at hs4;obtain⟨g',cap',el',sp',ts',eo',ets'⟩:∃g cap e sp ts,getT G4 s=.own g cap e sp ts/\ts.map (·.map T.erase)=es':=by
   rcases Acp (i5.tidyG s) (by rw[<-i5.get];exact h4)with hh|⟨_,hh⟩
   .exact hh
   .exact absurd hh hes
  have hwf':T.wf M4 (.own g' cap' el' sp' ts'):=by have:=i5.okG s;rw[eo']at this;exact this
  have hlen':ts'.length=es'.length:=by rw[<-ets'];simp
  rw[hA]at hxv;have hx1:=hxv.1;rw[hv,eo']at hs4;simp only[T.val,Value.slice.injEq]at hs4 hx1;obtain⟨rfl,rfl,rfl⟩:=hx1;obtain⟨hgg,_,rfl⟩:=hs4;simp only[zJ,Addr.mk.injEq,and_true]at hgg;subst hgg;obtain⟨k,_,hk,_⟩:=hwf'.1;have hso:Aat M4 G4 (.leaf (.sub s [] 0 m) vr):=by
   refine⟨getT G4 s,rfl,by rw[eo'];rfl,?_⟩;rw[eo'];refine⟨_,_,_,k,es',some ⟨g,0,none⟩,rfl,.inl (by simp only[T.erase,T.eraseE_eq,ets']),hlen'.symm,?_,by omega,hwf'.2.1.1,by rw[hvr2];simp,.inl (by simp[Addr.add_plain])⟩;intro e he;rw[<-ets']at he;obtain⟨q,hq,rfl⟩:=zC.1 he;simpa using hk q hq
  obtain⟨G5,i6,b6⟩:=i5.tell hrn hq4 hvr4 (by simp[T.tidy]) hso;refine hQ .normal _ _ _ kA ?_;exact Post.norm ⟨M4,G5,i6,e2.trans (((Evo.refl' M2 w2 b3).trans e4).trans (e5.weaken b6))⟩ hV3
 .have hgB:g ∉ B3:=hnin g _ _ hxv.1;have hheap:w3.heap[g]?=w2.heap[g]?:=e4.out g hglt hgB;have hM3:M3 g=none:=by
   cases hq:M3 g with
   |none=>rfl
   |some o=>
    rcases e4.memnew g o hq with h|h|h
    .rw [hMg]at h;cases h
    .exact absurd h hgB
    .omega
  have hG3:g ∉ keys (Aa0 G3):=fun hq=>by
   rcases e4.own g hq with h|h
   .exact hgB h
   .omega
  obtain⟨M4,G4,i5,e5⟩:=Apb i4 hfj (some s) hdst h3;have hglt3:g<w3.heap.size:=Nat.lt_of_lt_of_le hglt e4.size;have hM4:M4 g=none:=by
   cases hq:M4 g with
   |none=>rfl
   |some o=>
    rcases e5.memnew g o hq with h|h|h
    .rw [hM3]at h;cases h
    .exact absurd h hG3
    .omega
  have hG4:g ∉ keys (Aa0 G4):=fun hq=>by
   rcases e5.own g hq with h|h
   .exact hG3 h
   .omega
  let ob:Obj:=.cells (L++sp).toArray el (0,0)
  let M5:Mem:=fun q=>if q=g then some ob else M4 q
  have hle:M4.le M5:=fun q o hq=>by
   have:q≠g:=by rintro rfl;rw[hM4]at hq;cases hq
   simp only[M5,this,if_false];exact hq
  have hob:w3.heap[g]?=some ob:=by rw[hheap,hblk]
  have i5':Inv n R M5 F4 G4 [] _ w3:=i5.world hle ⟨i5.blk.nodup,i5.blk.heap,fun q hq=>by
   have:q.1≠g:=by
    rintro he;refine hG4 ?_;rw[<-he];rw[zE]at hq;exact zC.2 ⟨q,hq,rfl⟩
   simp only[M5,this,if_false];exact i5.blk.apart q hq⟩ (fun q o hq=>by
    simp only[M5]at hq
    split at hq
    .rename_i he;subst he;cases hq;exact hob
    .exact i5.mem q o hq)
  have hso:Aat M5 G4 (.leaf (.sl ((L.take m).map fun v=>[.lit v])) vr):=by
   show RI M5 (.sl ((L.take m).map fun v=>[.lit v])) vr;simp only[RI];have hc:=hwf.2.1.1;refine⟨some ⟨g,0,none⟩,m,cap,hvr2,by simp;omega,by rw[hlen]at hc;omega,by have:=hwf.2.2.1;rw[hlen]at hc;omega,.inr ⟨g,0,1,L.take m,rfl,?_,by omega,?_,Ayo fun v hv=>hone v (List.mem_of_mem_take hv)⟩⟩
   .refine ⟨(L++sp).toArray,el,(0,0),by simp[M5,ob],fun q uq hq=>?_⟩;rw[zU,zS];have hlt:=(zK.1 hq).1;rw[List.getElem?_take]at hq
    split at hq
    .rw [zL (by rw[List.length_take]at hlt;omega)];exact hq
    .cases hq
   .intro q hq;obtain⟨_,_,rfl⟩:=zC.1 hq;rfl
  obtain⟨G5,i6,b6⟩:=i5'.tell hrn hq4 hvr4 (by simp[T.tidy]) hso;refine hQ .normal _ _ _ kB ?_;refine Post.norm ⟨M5,G5,i6,e2.trans ?_⟩ hV3;have hev:Evo M2 (keys (Aa0 G2)) w2 M4 (keys (Aa0 G4)) w3:=by
   refine(Evo.refl' M2 w2 (B':=B3) fun q hq=>b3 q (hsub q hq)).trans (e4.trans e5)
  refine { hev with memle:=fun q o hq=>hle q o (hev.memle q o hq),memnew:=fun q o hq=>?_,own:=fun q hq=>hev.own q (b6 q hq) };simp only[M5]at hq
  split at hq
  .rename_i he;subst he;refine .inr (.inl ?_);exact zC.2 ⟨_,hbm,rfl⟩
  .exact hev.memnew q o hq
end
end Go.Own
