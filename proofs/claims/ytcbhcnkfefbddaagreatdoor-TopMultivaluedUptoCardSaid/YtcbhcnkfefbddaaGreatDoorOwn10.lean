/- An interpreter of function bodies, sound. No conditions. -/
import Derived.Laws.BytesString
import Derived.Laws.IdiomStrings
import Derived.Test.YtcbhcnkfefbddaaGreatDoorOwn9
set_option linter.all false
open Option renaming map_some->aA,getD_some->du,isSome_iff_exists->dR,getD_none->hR
open List renaming mem_of_mem_take->aM,map_cons->aQ,mem_append->a6,mem_of_mem_drop->ba,take_append_drop->bB,perm_append_comm_assoc->b3,append_nil->b5,getElem?_append_left->cc,getElem?_eq_some_iff->cu,map_append->cz,mem_cons->cx,getElem?_toArray->cD,extract_eq_take_drop->cT,mem_map->c_,length_take->dn,getElem?_eq_getElem->eb,extract_toArray->gj,mem_of_getElem?->gC,mem_cons_of_mem->fR,map_take->gD,map_drop->fW,getElem?_drop->hP,map_nil->hF,mem_singleton->hQ,mem_cons_self->hc,append_assoc->ie,length_drop->ig
open Bool renaming false_eq_true->bo,not_false->fx,or_eq_false_iff->fB,not_true->hb,not_eq_true->hq,or_eq_true->iZ
open List.Perm renaming append_left->bL,trans->eW
open Option.some renaming inj->cA
namespace Go.aS
open D
theorem xX{M:Mem}:∀{cs:List D}{vs:List Value},c4 M cs vs->∃ts:List T,ts.map T.erase=cs/\T.bP ts=vs/\T.ho ts/\T.ga M ts/\(∀t∈ts,t.blocks=[])
 |[],vs,h=>by simp only[c4]at h;subst h;exact⟨[],rfl,rfl,trivial,trivial,by simp⟩
 |c::cs,vs,h=>by
  simp only[c4]at h;obtain⟨v,k9,rfl,I,aa⟩:=h;obtain⟨ts,cb,cK,cS,dh,dr⟩:=xX aa;refine⟨.leaf c v::ts,by simp[T.erase,cb],by simp[T.bP,T.val,cK],⟨?_,cS⟩,⟨.inr I,dh⟩,?_⟩
  .cases c<;>simp_all [T.tidy,bu]
  .intro t al;rcases cx.1 al with rfl|al
   .simp [T.blocks]
   .exact dr t al
theorem RZ{M:Mem}:∀{es:List (List D)}{vs:List Value},fo M es vs->∃ts:List (List T),ts.map (·.map T.erase)=es/\T.bH ts=vs/\T.iv ts/\T.ha M ts
 |[],vs,h=>by simp only[fo]at h;subst h;exact⟨[],rfl,rfl,trivial,trivial⟩
 |e::es,vs,h=>by
  simp only[fo]at h;obtain⟨v1,v2,rfl,I,aa⟩:=h;obtain⟨t,a2,bA,a3,a4,_⟩:=xX I;obtain⟨ts,cb,cK,cS,dh⟩:=RZ aa;exact⟨t::ts,by simp[a2,cb],by simp[T.bH,bA,cK],⟨a3,cS⟩,⟨a4,dh⟩⟩
theorem Q7{M:Mem}:∀{ts:List T},T.ho ts->T.ga M ts->(ts.map T.erase).any dC=false->T.bq ts=[]
 |[],_,_,_=>by simp[T.bq]
 |t::ts,al,hw,h=>by
  simp only[aQ,List.any_cons,fB]at h;simp only[T.bq,Q7 al.2 hw.2 h.2,b5];cases t with
  |leaf=>simp[T.blocks]
  |agg=>have:=hw.1;simp[T.wf]at this
  |bt=>have:=hw.1;simp[T.wf]at this
  |_=>have:=h.1;simp[T.erase,D.dC]at this
theorem JW{M:Mem}:∀{ts:List (List T)},T.iv ts->T.ha M ts->((ts.map (·.map T.erase)).any λc=>c.any dC)=false->T.cO ts=[]
 |[],_,_,_=>by simp[T.cO]
 |t::ts,al,hw,h=>by
  simp only[aQ,List.any_cons,fB]at h;simp only[T.cO,Q7 al.1 hw.1 h.1,JW al.2 hw.2 h.2,b5]
section
variable{n:Nat}{R:Nat->Value}{M:Mem}{F aD:Fr}{G:bK}{H:dD}{a:Act}{w:World}
def Me(M:Mem)(w:World)(v:Value)(es:List (List D)):Prop:=
 ∃A c g_,v=.slice A es.length c/\es.length<=maxLen/\g_.map (·.map T.erase)=es/\T.iv g_/\T.ha M g_ /\
  (es=[]∨∃g b k,A=some ⟨g,b,none⟩/\0<k/\(∀e∈g_,e.length=k)/\∀j u,(T.bH g_)[j]?=some u->w.cell? ⟨g,b+j,none⟩=some u)
theorem Gn(hm:fE M w){es:List (List D)}{v:Value}(h:bu M (.sl es) v):Me M w v es:=by
 simp only[bu]at h;obtain⟨A,l,c,rfl,rfl,aB,aW,bO⟩:=h;rcases bO with rfl|⟨g,b,k,vs,rfl,c2,jJ,aj,cQ⟩
 .exact ⟨A,c,[],rfl,aW,rfl,trivial,trivial,.inl rfl⟩
 .obtain ⟨ts,cb,cK,cS,dh⟩:=RZ cQ;refine⟨_,c,ts,rfl,aW,cb,cS,dh,.inr ⟨g,b,k,rfl,jJ,?_,?_⟩⟩
  .intro e he;have:=aj (e.map T.erase) (by rw[<-cb];exact c_.2 ⟨e,he,rfl⟩);simpa using this
  .rw [cK];exact c2.heap hm
theorem aax{ts:List (List T)}(h:T.iv ts)(i k:Nat):T.iv ((ts.drop i).take k):=by
 rw[T.q4]at h⊢;intro e he;exact h e (ba (aM he))
theorem acV{M:Mem}{ts:List (List T)}(h:T.ha M ts)(i k:Nat):T.ha M ((ts.drop i).take k):=by
 rw[T.mR]at h⊢;intro e he;exact h e (ba (aM he))
theorem Tb{O:Type}{l:List O}{i:Nat}(h:l.length<=i):l.drop i=[]:=List.drop_eq_nil_of_le h
theorem RV{k:Nat}{ts:List (List T)}(aj:∀e∈ts,e.length=k)(i:Nat):T.bH (ts.drop i)=(T.bH ts).drop (i*k):=by
 by_cases hi:i<=ts.length
 .have hl:(T.bH (ts.take i)).length=i*k:=by
   rw[kg (λx U=>aj x (aM U)),dn,Nat.min_eq_left hi]
  conv=>rhs;rw[<-bB i ts,T.tP,<-hl,List.drop_left]
 .rw [Tb (by omega),Tb]
  .rfl
  .rw [kg aj];exact Nat.mul_le_mul_right _ (by omega)
theorem K7(h:Inv n R M F G H a w){d:D}{v:Value}(av:de M G d v){es:List (List D)}(he:gU F d=some es):Me M w v es:=by
 cases d with
 |sl es'=>simp only[gU,aE]at he;subst he;exact Gn h.mem av
 |alias s ps=>
  obtain⟨x,U,ao,rfl⟩:=av;have hw:=h.me U ao;have al:=h.k5 U;simp only[gU,h.b6,U,aA]at he
  split at he
  .rename_i es' fk;simp only[aE]at fk he;subst he;rcases om al fk with⟨g,cap,el,sp,ts,rfl,rfl⟩|⟨rfl,rfl⟩
   .obtain ⟨⟨k,jJ,aj,kr⟩,w2,hp,oh,k_⟩:=hw;refine⟨_,cap,ts,by simp[T.val],by simp;omega,rfl,al,k_,.inr ⟨g,0,k,rfl,jJ,aj,λj u hu=>?_⟩⟩;have ag:=(h.block U (b:=(g,.cells (T.bH ts++sp).toArray el (0,0))) (by simp[T.blocks])).1;rw[cell_of_row w g (0+j) _ el (0,0) ag];simp only[Nat.zero_add,cD];rw[cc (cu.1 hu).1];exact hu
   .exact ⟨none,0,[],rfl,by simp,rfl,trivial,trivial,.inl rfl⟩
  .rename_i es' fk;simp only[aE]at fk he;subst he;have aT:=zZ fk;rw[aT]at hw⊢;exact Gn h.mem (tZ hw (by simp))
  .cases he
 |sub s ps off len=>
  obtain⟨x,U,ao,cR⟩:=av;have hw:=h.me U ao;have al:=h.k5 U;simp only[gU,h.b6,U,aA]at he
  split at he
  .rename_i es' fk
   split at he
   .rename_i hle;simp only[aE]at fk he;subst he;obtain⟨A,m,c',k',uV,A',I,aa,aB,aW,bO,c7,rfl,dL⟩:=cR;rcases om al fk with⟨g,cap,el,sp,ts,rfl,rfl⟩|⟨rfl,rfl⟩
    .simp only[T.val,Value.slice.injEq]at I;obtain⟨rfl,rfl,rfl⟩:=I;obtain⟨⟨k,jJ,aj,kr⟩,w2,hp,oh,k_⟩:=hw;simp only[List.length_map]at hle;have hlen:(((ts.map (·.map T.erase)).drop off).take len).length=len:=by simp;omega
     refine⟨A',cap-off,(ts.drop off).take len,by rw[hlen],by rw[hlen];omega,by simp[gD,fW],aax al _ _,acV k_ _ _,?_⟩;by_cases aG:len=0
     .left;simp[aG]
     right;rcases dL with dL|dL
     .have cI:ts≠[]:=by intro e3;subst e3;simp at hle;omega
      have iU:k'=k:=by
       rcases aa with aa|aa
       .simp only[T.erase,D.own.injEq]at aa;subst aa;obtain⟨e,he⟩:=List.exists_mem_of_ne_nil ts cI;have:=aW (e.map T.erase) (by rw[T.lU];exact c_.2 ⟨e,he,rfl⟩);have:=aj e he;simp at *;omega
       .simp [T.erase]at aa
      subst iU;refine⟨g,off*k',k',by rw[dL];simp[Addr.add_plain],jJ,λe he=>aj e (ba (aM he)),λj u hu=>?_⟩;have ag:=(h.block U (b:=(g,.cells (T.bH ts++sp).toArray el (0,0))) (by simp[T.blocks])).1;rw[cell_of_row w g (off*k'+j) _ el (0,0) ag];have ah:T.bH (ts.drop off)=T.bH ((ts.drop off).take len)++T.bH ((ts.drop off).drop len):=by rw[<-T.tP,bB]
      have Ot:(T.bH (ts.drop off))[j]?=some u:=by rw[ah,cc (cu.1 hu).1];exact hu
      rw[RV aj,hP]at Ot;simp only[cD];rw[cc (cu.1 Ot).1];exact Ot
     .omega
    .simp only[List.length_nil,Nat.le_zero_eq]at hle;have:len=0:=by omega
     subst this;exact⟨A',c'-off,[],by simp,by simp,by simp,trivial,trivial,.inl (by simp)⟩
   .cases he
  .rename_i es' fk
   split at he
   .simp only[aE]at fk he;subst he;have aT:=zZ fk;rw[aT]at hw cR;exact Gn h.mem (Dg (tZ hw (by simp)) cR)
   .cases he
  .cases he
 |_=>simp[gU]at he
theorem sA{P:Program}{r clock:Nat}{es:Array MapEntry}(h:w.heap[r]?=some (.map es clock)):(getObj r).run P w=.ok (.map es clock) w:=by
 simp[getObj,Sem.run,h]
theorem Kx{t:T}(al:t.tidy){es:List (Value×D)}(h:t.erase=.map es):∃r c xs,t=.map r c xs/\xs.map (λx=>(x.1,x.2.2.1))=es:=by
 cases t with
 |leaf d v=>simp only[T.erase]at h;subst h;simp[T.tidy]at al
 |map r c xs=>simp only[T.erase,D.map.injEq]at h;exact⟨r,c,xs,rfl,h⟩
 |_=>simp[T.erase]at h
theorem adU{E:Env}(h:Inv n R M F G H a w){t ty:Nat}{ts:List Nat}{x d:D}{v:Value}(U:de M G x v)(ah:vl E F t x=some d):
  ∃u,(Builtin.len_ (t::ts).toArray ty #[v]).run E.P w=.ok u w/\de M G d u:=by
 have c0:((t::ts).toArray)[0]?=some t:=by simp
 unfold vl at ah
 split at ah
 .rename_i s hu;simp only[aE]at ah;subst ah;have:=jd U;subst this;refine⟨.int .i64 s.size,?_,lM rfl⟩;simp[Builtin.len_,run_underlying hu,goInt]
 .rename_i e hu;simp only[aE]at ah;subst ah;simp only[de]at U;subst U;refine⟨.int .i64 0,?_,lM rfl⟩;simp[Builtin.len_,run_underlying hu,goInt]
 .rename_i d0 _ _ e hu _;cases he:gU F d0 with
  |none=>simp[he]at ah
  |some es=>
   simp only[he,aA,aE]at ah;subst ah;obtain⟨A,c,g_,rfl,_⟩:=K7 h U he;refine⟨.int .i64 es.length,?_,lM rfl⟩;simp[Builtin.len_,run_underlying hu,goInt]
 .rename_i kt et s ps hu;obtain⟨y,aw,ao,rfl⟩:=U;simp only[h.b6,aw,aA]at ah
  split at ah
  .rename_i es he;simp only[aE]at he ah;subst ah;obtain⟨r,c,xs,rfl,rfl⟩:=Kx (h.k5 aw) he;have ag:=(h.block aw (b:=(r,.map (T.entries xs) c)) (by simp[T.blocks])).1;refine⟨.int .i64 xs.length,?_,by simpa using lM (M:=M) (G:=G) (v:=.int .i64 xs.length) rfl⟩;simp[Builtin.len_,run_underlying hu,goInt,T.val,sA ag,T.entries]
  .cases ah
 .cases ah
end
end Go.aS
namespace Go.aS
open D
section
variable{n:Nat}{R:Nat->Value}{M:Mem}{F aD:Fr}{G:bK}{H:dD}{a:Act}{w:World}
def ue(lo:Option Nat)(r_:Option Value):Prop:=match lo,r_ with
 |none,none=>True
 |some l,some v=>∃k m,v=.int k m/\0<=m/\m.toNat=l
 |_,_=>False
theorem SH{E:Env}(h:Inv n R M F G H a w){x:Option Operand}(U:∀y,x=some y->Fits n y){l:Option Nat}(hl:iK E F x=some l):ue l (x.map a.eval):=by
 cases x with
 |none=>simp only[iK,aE]at hl;subst hl;trivial
 |some y=>
  simp only[iK]at hl;cases ah:aZ E F y with
  |none=>simp[ah]at hl
  |some d=>
   simp only[ah]at hl;cases ao:asNat d with
   |none=>simp[ao]at hl
   |some m=>
    simp only[ao,aA,aE]at hl;subst hl;obtain⟨k,i,rfl,aO,rfl⟩:=zM ao;have:=jd (h.aZ (U y rfl) ah);exact⟨k,i,this,aO,rfl⟩
theorem Qa{P:Program}{akB:Bool}{len cap:Nat}{lo hi:Option Nat}{r_ av:Option Value}(hl:ue lo r_)(aU:ue hi av)(I:lo.getD 0<=hi.getD len)(aa:hi.getD len<=cap)(w:World):
  (Instr.sliceBounds akB len cap r_ av none).run P w=.ok (lo.getD 0,hi.getD len,cap) w:=by
 have Jj:∀(k:IntKind)(m:Int)(y:Nat)(c:BoundsCode),0<=m->m.toNat<=y->(Instr.sliceBound (.int k m) y c).run P w=.ok m.toNat w:=λk m y c a b=>by
  have:m<=y:=by omega
  simp[Instr.sliceBound,asIntOf,a,this]
 cases hi<;>cases av<;>simp only[ue]at aU<;>cases lo<;>cases r_<;>simp only[ue]at hl
 .simp [Instr.sliceBounds]
 .obtain ⟨k,m,rfl,a,rfl⟩:=hl;simp only[du,hR]at I aa;simp[Instr.sliceBounds,Jj k m len _ a I]
 .obtain ⟨k,m,rfl,a,rfl⟩:=aU;simp only[du,hR]at I aa;simp[Instr.sliceBounds,Jj k m cap _ a aa]
 .obtain ⟨k,m,rfl,a,rfl⟩:=aU;obtain⟨k',k4,rfl,cp,rfl⟩:=hl;simp only[du]at I aa;simp[Instr.sliceBounds,Jj k m cap _ a aa,Jj k' k4 _ _ cp I]
theorem JG{P:Program}{t e:Nat}(al:P.underlying t=some (.slice e)){i:TypeInfo}(hi:P.info? e=some i){A:Option Addr}{l c:Nat}{lo aU:Option Nat}{r_ av:Option Value}(cb:ue lo r_)(cK:ue aU av)
  (I:lo.getD 0<=aU.getD l) (aa:aU.getD l<=c) (w:World):
  (Instr.sliceAt t (.slice A l c) r_ av none).run P w=.ok (.slice (if c=lo.getD 0 then A else A.map (·.add (lo.getD 0*aY P e))) (aU.getD l-lo.getD 0) (c-lo.getD 0)) w:=by
 simp[Instr.sliceAt,Instr.slice,run_underlying al,Qa cb cK I aa,re hi]
theorem KW{k:Nat}{es:List (List D)}(h:wide k es=true){j:Nat}(aH:∀e∈es,e.length=j):∀e∈es,e.length=k:=by
 cases es with
 |nil=>simp
 |cons c es=>
  simp only[wide,beq_iff_eq]at h;have:=aH c (by simp);intro e he;rw[aH e he,<-this,h]
theorem abu{E:Env}(h:Inv n R M F G H a w){t:Nat}{x d:D}{v:Value}(U:de M G x v){lo hi:Option Nat}{r_ av:Option Value}(cb:ue lo r_)(cK:ue hi av)(ah:oe E F t x lo hi=some d):
  ∃u,(Instr.sliceAt t v r_ av none).run E.P w=.ok u w/\de M G d u:=by
 cases x with
 |lit z=>
  cases z with
  |string s=>
   simp only[oe]at ah
   split at ah
   .rename_i hu
    split at ah
    .rename_i ag;simp only[aE]at ah;subst ah;have:=jd U;subst this;refine⟨.string (s.extract (lo.getD 0) (hi.getD s.size)),?_,lM rfl⟩;simp[Instr.sliceAt,Instr.slice,run_underlying hu,Qa cb cK ag.1 ag.2]
    .cases ah
   .cases ah
  |_=>simp[oe]at ah
 |sl es=>
  simp only[oe]at ah;cases ae:eD E.P t with
  |none=>simp[ae]at ah
  |some e=>
   simp only[ae]at ah
   split at ah
   .rename_i ag;obtain⟨kY,eS,lu,u1⟩:=ag;simp only[aE]at ah;subst ah;obtain⟨inf,h_⟩:=sy u1;have cQ:bu M (.sl es) v:=U;have D7:=cQ;simp only[bu]at D7;obtain⟨A,l,c,rfl,rfl,aB,aW,bO⟩:=D7;refine⟨_,JG (tX ae) h_ cb cK kY (by omega) w,?_⟩;have aj:∃k,∀e∈es,e.length=k:=by
     rcases bO with rfl|⟨_,_,k,_,_,_,_,aj,_⟩
     .exact ⟨0,by simp⟩
     .exact ⟨k,aj⟩
    obtain⟨k,aj⟩:=aj;have ai7:=KW lu aj;have ia:wA (.leaf (.sl es) (.slice A es.length c)) (lo.getD 0) (hi.getD es.length-lo.getD 0) (.slice (if c=lo.getD 0 then A else A.map (·.add (lo.getD 0*aY E.P e))) (hi.getD es.length-lo.getD 0) (c-lo.getD 0)):=by
     refine⟨A,es.length,c,aY E.P e,es,_,rfl,.inr (by simp[T.erase]),rfl,ai7,by omega,aB,rfl,?_⟩;by_cases ad:c=lo.getD 0
     .by_cases aO:lo.getD 0=0
      .left;rw[if_pos ad,aO];cases A<;>simp[Addr.add]
      .right;omega
     .left;rw[if_neg ad]
    exact Dg cQ ia
   .cases ah
 |alias s ps=>
  have akg:=U;obtain⟨y,aw,ao,av⟩:=U;simp only[oe]at ah;cases ae:eD E.P t with
  |none=>simp[ae]at ah
  |some e=>
   simp only[ae]at ah;cases he:gU F (alias s ps)with
   |none=>simp[he]at ah
   |some es=>
    simp only[he]at ah
    split at ah
    .rename_i ag;obtain⟨kY,eS,lu,u1⟩:=ag;simp only[aE]at ah;subst ah;obtain⟨inf,h_⟩:=sy u1;have hw:=h.me aw ao;have al:=h.k5 aw;have key:∃A c k,y.val=.slice A es.length c/\(y.erase=.own es∨y.erase=.sl es)/\es.length<=c/\(∀e∈es,e.length=k):=by
      simp only[gU,h.b6,aw,aA]at he
      split at he
      .rename_i es' fk;simp only[aE]at fk he;subst he;rcases om al fk with⟨g,cap,el,sp,ts,rfl,rfl⟩|⟨rfl,rfl⟩
       .obtain ⟨⟨k,jJ,aj,kr⟩,w2,hp,oh,k_⟩:=hw;refine⟨some ⟨g,0,none⟩,cap,k,by simp[T.val],.inl (by simp[T.erase,T.lU]),by simpa using w2.1,?_⟩;intro x gJ;obtain⟨z,aG,rfl⟩:=c_.1 gJ;simpa using aj z aG
       .exact ⟨none,0,0,rfl,.inl (by simp[T.erase]),by simp,by simp⟩
      .rename_i es' fk;simp only[aE]at fk he;subst he;have aT:=zZ fk;rw[aT]at hw;have hr:=tZ hw (by simp);simp only[bu]at hr;obtain⟨A,l,c,I,rfl,aB,aW,bO⟩:=hr;refine⟨A,c,?_⟩;rcases bO with rfl|⟨_,_,k,_,_,_,_,aj,_⟩
       .exact ⟨0,I,.inr fk,aB,by simp⟩
       .exact ⟨k,I,.inr fk,aB,aj⟩
      .cases he
     obtain⟨A,c,k,gI,aiM,hle,aj⟩:=key;subst av;rw[gI];refine⟨_,JG (tX ae) h_ cb cK kY (by omega) w,?_⟩;refine jY (d:=.sub _ _ _ _) ⟨y,aw,ao,A,es.length,c,aY E.P e,es,_,gI,aiM,rfl,KW lu aj,by omega,hle,rfl,?_⟩;by_cases ad:c=lo.getD 0
     .by_cases aO:lo.getD 0=0
      .left;rw[if_pos ad,aO];cases A<;>simp[Addr.add]
      .right;omega
     .left;rw[if_neg ad]
    .cases ah
 |sub s ps off len=>
  obtain⟨y,aw,ao,cR⟩:=U;simp only[oe]at ah;cases ae:eD E.P t with
  |none=>simp[ae]at ah
  |some e=>
   simp only[ae]at ah;cases he:gU F (alias s ps)with
   |none=>simp[he]at ah
   |some es=>
    simp only[he]at ah
    split at ah
    .rename_i ag;obtain⟨kY,eS,lu,u1⟩:=ag;simp only[aE]at ah;subst ah;obtain⟨inf,h_⟩:=sy u1;have fk:y.erase=.own es∨y.erase=.sl es:=by
      simp only[gU,h.b6,aw,aA]at he
      split at he
      .rename_i es' da;simp only[aE]at da he;subst he;exact .inl da
      .rename_i es' da;simp only[aE]at da he;subst he;exact .inr da
      .cases he
     obtain⟨A,m,c,k,uV,A',I,aa,aB,aW,bO,c7,rfl,dL⟩:=cR;have:uV=es:=by
      rcases aa with aa|aa<;>rcases fk with da|da<;>rw[aa]at da<;>first|(injection da)|(cases da)
     subst this;have aj:uV=[]∨aY E.P e=k:=by
      cases uV with
      |nil=>exact .inl rfl
      |cons z uV=>right;rw[<-KW lu aW z (by simp),aW z (by simp)]
     refine⟨_,JG (tX ae) h_ cb cK kY (by omega) w,?_⟩;have qH:c-off-lo.getD 0=c-(off+lo.getD 0):=by omega
     refine jY (d:=.sub _ _ _ _) ⟨y,aw,ao,A,m,c,k,uV,_,I,aa,aB,aW,by omega,c7,by rw[qH],?_⟩;by_cases aO:lo.getD 0=0
     .rw [aO];have ai0:(if c-off=0 then A' else A'.map (·.add (0*aY E.P e)))=A':=by
       split
       .rfl
       .cases A'<;>simp[Addr.add]
      rw[ai0];simpa using dL
     .by_cases ad:c-off=lo.getD 0
      .right;omega
      .left;rw[if_neg ad];rcases dL with dL|dL
       .rw [dL];have:aY E.P e=k:=by
         rcases aj with aj|aj
         .subst aj;simp at aB;omega
         .exact aj
        rw[this];cases A with
        |none=>rfl
        |some q=>
         simp only[aA,aE,Nat.add_mul];unfold Addr.add
         (repeat' split)<;>simp_all<;>omega
       .omega
    .cases ah
 |_=>simp[oe]at ah
theorem T0{E:Env}{M:Mem}{G:bK}{cs:List D}{vs:List Value}(h:ff (j1 M G) cs vs){t off:Nat}{d:D}(ah:vr E t cs off=some d)(w:World):∃u,(part t vs.toArray off).run E.P w=.ok u w/\de M G d u:=by
 unfold vr at ah
 split at ah
 case isFalse=>cases ah
 rename_i ad;obtain⟨hu,hl⟩:=ad;obtain⟨tM,e6⟩:=dR.1 hu;obtain⟨inf,h_⟩:=xL e6;obtain⟨b9,k2⟩:=Kn ((h.drop off).take (aY E.P t)) ah;refine⟨_,?_,b9⟩;unfold part;rw[Sem.run_bind,CA e6 w];simp only[Result.andThen_ok]
 split
 .rename_i ag;simp only[Sem.run_bind,re h_ w,Result.andThen_ok,Sem.run_pure];congr 2;simp only[gj,cT];congr 2;omega
 .rename_i ag;have:=k2 (by simpa using ag);rw[dn,ig,<-h.length]at this;have ae:aY E.P t=1:=by
   unfold se at ah;simp only[ag]at ah;simp only[bo,if_false]at ah
   split at ah
   .rename_i c ad;have:=congrArg List.length ad;rw[dn,ig]at this;simp at this;omega
   .cases ah
  have bU:off<vs.length:=by rw[<-h.length];omega
  rw[ae];simp only[cD,eb bU,Sem.run_pure];congr 1;rw[List.getD_eq_getElem?_getD,List.getElem?_take,if_pos (by omega),hP,Nat.add_zero,eb bU];rfl
theorem aca{E:Env}(h:Inv n R M F G H a w){t j:Nat}{fd:Field}(hf:n1 E.P t j=some fd){cs:List D}{d:D}{v:Value}(U:de M G (.agg cs) v)(ah:vr E fd.type cs fd.offset=some d):
  ∃u,(Instr.field t v j).run E.P w=.ok u w/\de M G d u:=by
 obtain⟨fs,aT,a5⟩:=QU hf;obtain⟨vs,rfl,nf⟩:=U;obtain⟨u,b9,k2⟩:=T0 nf ah w;exact⟨u,by simp[Instr.field,run_underlying aT,a5,asAgg,b9],k2⟩
theorem Yt{E:Env}(h:Inv n R M F G H a w){t l e:Nat}(al:yv E.P t=some (l,e)){ix:D}{i:Nat}(hi:asNat ix=some i)(rT:i<l){cs:List D}{d:D}{v u:Value}(U:de M G (.agg cs) v)(hu:de M G ix u)(ah:vr E e cs (i*aY E.P e)=some d):
  ∃z,(Instr.index t v u).run E.P w=.ok z w/\de M G d z:=by
 obtain⟨k,m,rfl,aO,rfl⟩:=zM hi;have:=jd hu;subst this;obtain⟨vs,rfl,nf⟩:=U;obtain⟨z,b9,k2⟩:=T0 nf ah w;have bU:m<l:=by omega
 have h_:∃inf,E.P.info? e=some inf:=by
  unfold vr at ah
  split at ah
  .rename_i ad;obtain⟨tM,e6⟩:=dR.1 ad.1;exact xL e6
  .cases ah
 obtain⟨inf,h_⟩:=h_;exact⟨z,by simp[Instr.index,asIntOf,run_underlying (QP al),aO,bU,re h_,b9],k2⟩
theorem Yn{E:Env}{t:Nat}(al:E.P.underlying t=some .string){ix:D}{i:Nat}(hi:asNat ix=some i){s:ByteArray}{b:UInt8}{v u:Value}(U:de M G (.lit (.string s)) v)(hu:de M G ix u)(ah:s[i]?=some b):
  ∃z,(Instr.index t v u).run E.P w=.ok z w/\de M G (.lit (.int .u8 b.toNat)) z:=by
 obtain⟨k,m,rfl,aO,rfl⟩:=zM hi;have:=jd hu;subst this;have:=jd U;subst this;exact⟨_,by simp[Instr.index,asIntOf,run_underlying al,aO,ah],lM rfl⟩
theorem JF{P:Program}(op:BinOp)(t:Nat)(x y:Operand){u v:Value}(I:∀a b,u=.agg a->v=.agg b->False)(aa:u≠.nilIface)(w:World):(eqGuard op t x y u v).run P w=.ok () w:=by
 unfold eqGuard;rw[Sem.run_ite];generalize ad:(!match op with| .eql=>true| .neq=>true|x=>false)=c;by_cases Eb:c=true
 .rw [if_pos Eb];rfl
 .rw [if_neg Eb]
  split
  .exact absurd rfl aa
  .exact (I _ _ rfl rfl).elim
  .rfl
theorem TR{P:Program}{xs fA:List D}{us vs:List Value}{M:Mem}{G:bK}(U:ff (j1 M G) xs us)(aw:ff (j1 M G) fA vs)(k:Nat)(w:World){f:Field}{qV:Option Bool}{b:Bool}(h:HR P xs fA f qV=some b):
  f.name ≠ "_" /\ ∃ x y r, (part f.type us.toArray f.offset).run P w = .ok x w /\ (part f.type vs.toArray f.offset).run P w = .ok y w /\ (Op.equalIn (k + 1) f.type x y).run P w = .ok r w /\ ((r = true /\ qV = some b) ∨ (r = false /\ b = false)) := by
 have lit:∀{cs:List D}{gb:List Value},ff (j1 M G) cs gb->∀{x:Value},cs[f.offset]?=some (.lit x)->gb[f.offset]?=some x:=λaU x ad=>by
  obtain⟨y,I,aa⟩:=aU.get ad;rcases aa.2 with aa|⟨aa,_⟩
  .simp only[aJ,bu]at aa;rw[I,aa.1]
  .cases aa
 have vt:∀{tM:TypeDesc}(_:P.underlying f.type=some tM)(_:h0 P f.type=false){gb:List Value}{x:Value},gb[f.offset]?=some x->(part f.type gb.toArray f.offset).run P w=.ok x w:=λhu dB gb x aG=>by
  unfold part;rw[Sem.run_bind,CA hu w,dB];simp[aG]
 unfold HR at h
 split at h
 .cases h
 .rename_i cI;refine⟨cI,?_⟩
  split at h
  .rename_i b_ b9 a k2 iA hu I aa
   split at h
   .rename_i aj;subst aj;refine⟨_,_,_,vt hu (by simp[h0,hu]) (lit U I),vt hu (by simp[h0,hu]) (lit aw aa),run_equalIn_int w k f.type b9 b_ a iA hu,?_⟩
    split at h
    .rename_i dH;exact .inl ⟨dH,h⟩
    .rename_i dH;exact .inr ⟨by simpa using dH,(cA h).symm⟩
   .cases h
  .rename_i a iA hu I aa;refine⟨_,_,_,vt hu (by simp[h0,hu]) (lit U I),vt hu (by simp[h0,hu]) (lit aw aa),run_equalIn_bool' w k f.type a iA hu,?_⟩
   split at h
   .rename_i dH;exact .inl ⟨dH,h⟩
   .rename_i dH;exact .inr ⟨by simpa using dH,(cA h).symm⟩
  .rename_i a iA hu I aa;refine⟨_,_,_,vt hu (by simp[h0,hu]) (lit U I),vt hu (by simp[h0,hu]) (lit aw aa),run_equalIn_string w k f.type a iA hu,?_⟩
   split at h
   .rename_i dH;exact .inl ⟨by simpa using dH,h⟩
   .rename_i dH;exact .inr ⟨by simpa using dH,(cA h).symm⟩
  .cases h
theorem Rm{P:Program}{xs fA:List D}{us vs:List Value}{M:Mem}{G:bK}(U:ff (j1 M G) xs us)(aw:ff (j1 M G) fA vs)(k:Nat)(w:World){qV:Option Bool}:∀{fs:List Field}{b:Bool},M0 P xs fA qV fs=some b ->
  ∃r,(Op.eqFields (k+1) us.toArray vs.toArray fs).run P w=.ok r w/\((r=true/\qV=some b)∨(r=false/\b=false))
 |[],b,h=>⟨true,rfl,.inl ⟨rfl,h⟩⟩
 |f::fs,b,h=>by
  obtain⟨ao,x,y,r,I,aa,aB,aW⟩:=TR U aw k w (f:=f) h;rcases aW with⟨rfl,aW⟩|⟨rfl,rfl⟩
  .obtain ⟨r2,c5,eo⟩:=Rm U aw k w (fs:=fs) aW;refine⟨r2,?_,eo⟩;simp only[Op.eqFields,if_pos ao,Sem.run_bind,I,aa,aB,Result.andThen_ok,hb,bo,if_false];exact c5
  .refine ⟨false,?_,.inr ⟨rfl,rfl⟩⟩;simp only[Op.eqFields,if_pos ao,Sem.run_bind,I,aa,aB,Result.andThen_ok,fx,if_true];rfl
theorem F1{P:Program}{xs fA:List D}{us vs:List Value}{M:Mem}{G:bK}(U:ff (j1 M G) xs us)(aw:ff (j1 M G) fA vs)(k:Nat)(w:World):∀{fs:List Field}{b:Bool},AP P xs fA fs=some b->(Op.eqFields (k+2) us.toArray vs.toArray fs).run P w=.ok b w
 |[],b,h=>by simp only[AP,aE]at h;subst h;rfl
 |f::fs,b,h=>by
  simp only[AP]at h
  split at h
  .rename_i gs u7;have hu:P.underlying f.type=some (.struct gs.toArray):=by
    unfold XC at u7
    split at u7
    .rename_i a aC;rw[aC,<-cA u7]
    .cases u7
   split at h
   .cases h
   ·rename_i cI;simp only [iZ,decide_eq_true_eq,not_or,hq] at cI;obtain ⟨ao,c8⟩:=cI;have ao : f.name ≠ "_" := by simpa using ao
    have dB:h0 P f.type=true:=by simp[h0,hu]
    obtain⟨info,hi⟩:=xL hu;have vt:∀gb:List Value,(part f.type gb.toArray f.offset).run P w=.ok (.agg ((gb.drop f.offset).take (aY P f.type)).toArray) w:=λgb=>by
     unfold part;rw[Sem.run_bind,CA hu w,dB];simp only[Result.andThen_ok,if_true,Sem.run_bind,re hi w];have:gb.toArray.extract f.offset (f.offset+aY P f.type)=((gb.drop f.offset).take (aY P f.type)).toArray:=by
      rw[gj,cT,Nat.add_sub_cancel_left]
     rw[this];rfl
    have aiR:P.underlying f.type=some (.struct (P.fieldsOf f.type)):=by simp[Program.fieldsOf,hu]
    have Ih:(P.fieldsOf f.type).toList=gs:=by simp[Program.fieldsOf,hu]
    obtain⟨r,c5,eo⟩:=Rm ((U.drop f.offset).take (aY P f.type)) ((aw.drop f.offset).take (aY P f.type)) k w (fs:=gs) h;have aB:(Op.equalIn (k+2) f.type (.agg ((us.drop f.offset).take (aY P f.type)).toArray) (.agg ((vs.drop f.offset).take (aY P f.type)).toArray)).run P w=.ok r w:=by
     rw[run_equalIn_struct w (k+1) f.type _ _ aiR c8,Ih];exact c5
    rcases eo with⟨rfl,eo⟩|⟨rfl,rfl⟩
    .simp only[Op.eqFields,if_pos ao,Sem.run_bind,vt,aB,Result.andThen_ok,hb,bo,if_false];exact F1 U aw k w eo
    .simp only[Op.eqFields,if_pos ao,Sem.run_bind,vt,aB,Result.andThen_ok,fx,if_true];rfl
  .obtain ⟨ao,x,y,r,I,aa,aB,aW⟩:=TR U aw (k+1) w (f:=f) h;rcases aW with⟨rfl,aW⟩|⟨rfl,rfl⟩
   .simp only[Op.eqFields,if_pos ao,Sem.run_bind,I,aa,aB,Result.andThen_ok,hb,bo,if_false];exact F1 U aw k w aW
   .simp only[Op.eqFields,if_pos ao,Sem.run_bind,I,aa,aB,Result.andThen_ok,fx,if_true];rfl
theorem J8{P:Program}{t:Nat}{fs:Array Field}(h:P.underlying t=some (.struct fs)):P.fieldsOf t=fs:=by simp[Program.fieldsOf,h]
theorem ac5{E:Env}{op:BinOp}{t:Nat}{x y d:D}{u v:Value}(U:de M G x u)(aw:de M G y v)(ah:qt E op t x y=some d)(gL Pm:Operand):
  ∃z,(do eqGuard op t gL Pm u v;binOp op t u v:Sem Value).run E.P w=.ok z w/\de M G d z:=by
 unfold qt at ah
 split at ah
 .rename_i xs fA
  split at ah
  .rename_i fs hu
   split at ah
   .cases ah
   .rename_i ad;simp only[iZ,not_or,hq]at ad;obtain⟨us,rfl,tr⟩:=U;obtain⟨vs,rfl,nf⟩:=aw;have c8:E.P.underlying t=some (.struct (E.P.fieldsOf t)):=by rw[J8 hu];exact hu
    split at ah
    .rename_i b ag;simp only[aE]at ah;subst ah;refine⟨.bool b,?_,lM rfl⟩;rw[Sem.run_bind,run_eqGuard_agg w _ t gL Pm _ _ ad.2];simp only[Result.andThen_ok];rw[run_eql_struct,run_equalIn_struct w 9999 t _ _ c8 ad.1,J8 hu,F1 tr nf 9997 w ag];rfl
    .rename_i b ag;simp only[aE]at ah;subst ah;refine⟨.bool !b,?_,lM rfl⟩;rw[Sem.run_bind,run_eqGuard_agg w _ t gL Pm _ _ ad.2];simp only[Result.andThen_ok];rw[run_neq_struct,run_equalIn_struct w 9999 t _ _ c8 ad.1,J8 hu,F1 tr nf 9997 w ag];rfl
    .cases ah
  .cases ah
 .rename_i p q;have:=jd U;subst this;have:=jd aw;subst this
  split at ah
  .rename_i p q
   split at ah
   .rename_i hu;simp only[aE]at ah;subst ah;refine⟨.bool (p==q),?_,lM rfl⟩;rw[Sem.run_bind,JF _ _ _ _ (by simp) (by simp) w];simp[binOp,Op.equal,Op.maxDepth,run_equalIn_bool' w 9999 t p q hu]
   .rename_i hu;simp only[aE]at ah;subst ah;refine⟨.bool (p != q),?_,lM rfl⟩;rw[Sem.run_bind,JF _ _ _ _ (by simp) (by simp) w];simp[binOp,Op.equal,Op.maxDepth,run_equalIn_bool' w 9999 t p q hu,bne]
   .cases ah
  .cases ag:qu op u v with
   |none=>simp[ag]at ah
   |some z=>
    simp only[ag,aA,aE]at ah;subst ah;refine⟨z,?_,lM (YN ag)⟩;have aT:(∀a b,u=.agg a->v=.agg b->False)/\u≠.nilIface:=by
     cases u<;>cases v<;>simp_all [qu]
    rw[Sem.run_bind,JF _ _ _ _ aT.1 aT.2 w];exact TL ag w
 .cases ah
theorem S8{E:Env}(h:Inv n R M F G H a w):∀{xs:List Operand}{cs:List D},(∀x∈xs,Fits n x)->uO E F xs=some cs->ff (aJ M G) cs (xs.map a.eval)
 |[],cs,_,ah=>by simp only[uO,aE]at ah;subst ah;exact .nil
 |x::xs,cs,hf,ah=>by
  simp only[uO]at ah
  split at ah
  .rename_i d az I aa
   split at ah
   .rename_i ad;simp only[aE]at ah;subst ah;refine .cons ?_ (S8 h (λy aw=>hf y (by simp[aw])) aa);have av:=h.aZ (hf x (by simp)) I;cases d with
    |fn f cs=>
     simp only[uN,Bool.not_eq_true']at ad;obtain⟨vs,aT,a5⟩:=av;show bu M _ _;simp only[bu];exact⟨vs,aT,J5 a5 ad⟩
    |own=>simp[uN]at ad
    |agg=>simp[uN]at ad
    |box=>simp[uN]at ad
    |map=>simp[uN]at ad
    |bld=>simp[uN]at ad
    |bt=>simp[uN]at ad
    |undef=>simp[uN]at ad
    |_=>simpa only[de,fm]using av
   .cases ah
  .cases ah
theorem ZX(h:Inv n R M F G H a w){t i:Nat}(al:t<n){az:List D}{d:D}(ak:aS.get F t=.bt az)(hi:az[i]?=some d):
  ∃u,(∀P:Program,(Instr.extract (a.eval (.tmp t)) i).run P w=.ok u w)/\de M G (view t [(0,i)] d) u:=by
 rw[h.get]at ak;have e6:=h.jq t;have cm:=h.iJ t;cases vi:bg G t with
 |leaf bf v=>rw[vi]at ak e6;simp only[T.erase]at ak;subst ak;simp[T.tidy]at e6
 |bt ts=>
  rw[vi]at ak e6 cm;simp only[T.erase,D.bt.injEq]at ak;subst ak;rw[T.hz,List.getElem?_map]at hi;cases ad:ts[i]? with
  |none=>simp[ad]at hi
  |some c=>
   simp only[ad,aA,aE]at hi;subst hi;have hf:eg G t=some (bg G t):=tV (by rw[vi,fP];simp);have H_:=cm c (gC ad);have EC:fg M G c:=by
    cases c with
    |leaf d v=>
     rcases H_ with rfl|hr
     .simp [fg,fm,aJ]
     .exact Df hr
    |agg cs=>exact λc u3=>zV ((T.q6 M cs).1 H_ c u3)
    |bt=>simp[qc,T.wf]at H_
    |_=>exact H_
   refine⟨c.val,λP=>?_,?_⟩
   .rw [h.eval al hf,vi];simp[T.val,Instr.extract,T.ny,ad]
   .exact QO (by rw[vi];simp[T.bw,T.elem,ad]) ((T.o4 ts).1 e6 c (gC ad)) EC
 |_=>rw[vi]at ak;simp[T.erase]at ak
end
end Go.aS
namespace Go.aS
open D
namespace T
def cells:T->List T
 |agg cs=>cs
 |t=>[t]
end T
theorem q_{M:Mem}{t:T}(ak:dV M t)(al:t.tidy):t.cells.map T.erase=t.erase.cells/\T.bP t.cells=t.val.cells.toList/\T.ho t.cells/\T.ga M t.cells/\T.bq t.cells=t.blocks:=by
 cases t with
 |agg cs=>exact⟨by simp[T.cells,T.erase,D.cells,T.hz],by simp[T.cells,T.val,Value.cells],al,ak,by simp[T.cells,T.blocks]⟩
 |bt=>exact ak.elim
 |leaf d v=>
  refine⟨?_,?_,⟨al,trivial⟩,⟨.inr ak,trivial⟩,by simp[T.cells,T.bq,T.blocks]⟩
  .cases d<;>simp_all [T.cells,T.erase,D.cells,T.tidy]
  .have:=bu.one ak;cases v<;>simp_all [T.cells,T.bP,T.val,Value.cells,Value.oneCell']
 |own=>exact⟨rfl,rfl,⟨al,trivial⟩,⟨ak,trivial⟩,by simp[T.cells,T.bq]⟩
 |nil=>exact⟨rfl,rfl,⟨al,trivial⟩,⟨ak,trivial⟩,by simp[T.cells,T.bq]⟩
 |box=>exact⟨rfl,rfl,⟨al,trivial⟩,⟨ak,trivial⟩,by simp[T.cells,T.bq]⟩
 |map=>exact⟨rfl,rfl,⟨al,trivial⟩,⟨ak,trivial⟩,by simp[T.cells,T.bq]⟩
 |bld v bs t e l=>
  have av:(T.bld v bs t e l).val.cells.toList=[v]:=by obtain⟨g,p,rfl,_⟩:=ak;rfl
  exact⟨rfl,av.symm,⟨al,trivial⟩,⟨ak,trivial⟩,by simp[T.cells,T.bq]⟩
section
variable{n:Nat}{R:Nat->Value}{M:Mem}{F aD:Fr}{G:bK}{H:dD}{a:Act}{w:World}
theorem dT.nc{M:Mem}{w w':World}{B:dD}(h:dT M w B)(e:w'.heap=w.heap):dT M w' B:=⟨h.nodup,λx U=>by rw[e];exact h.heap x U,h.apart⟩
theorem fE.nc{M:Mem}{w w':World}(h:fE M w)(e:w'.heap=w.heap):fE M w':=λg o ak=>by rw[e];exact h g o ak
theorem Inv.nc(h:Inv n R M F G H a w){w':World}(e:w'.heap=w.heap):Inv n R M F G H a w':=
 {h with bd:=h.bd.nc e,mem:=h.mem.nc e }
theorem dT.alloc{M:Mem}{w:World}{B:dD}(h:dT M w B)(hm:fE M w)(o:Obj):dT M (w.alloc o) ((w.heap.size,o)::B) where
 nodup:=by
  simp only[aQ,List.nodup_cons];refine⟨λeE=>?_,h.nodup⟩;obtain⟨x,U,he⟩:=c_.1 eE;have:=h.lt U;omega
 heap x U:=by
  rcases cx.1 U with rfl|U
  .exact heap_alloc_new w o
  .rw [heap_alloc_old w o (h.lt U)];exact h.heap x U
 apart x U:=by
  rcases cx.1 U with rfl|U
  .cases bW:M w.heap.size with
   |none=>rfl
   |some pU=>have:=hm.lt bW;omega
  .exact h.apart x U
theorem fE.alloc{M:Mem}{w:World}(hm:fE M w)(o:Obj):fE M (w.alloc o):=λg pU ak=>by
 rw[heap_alloc_old w o (hm.lt ak)];exact hm g pU ak
theorem Inv.alloc(h:Inv n R M F G H a w)(o:Obj):Inv n R M F G ((w.heap.size,o)::H) a (w.alloc o):=
 {h with
  bd:=(h.bd.alloc h.mem o).perm (List.perm_middle.symm)
  mem:=h.mem.alloc o }
theorem cN.alloc{M:Mem}{B:List Nat}{w w1:World}{b1:Mem}{je:List Nat}(e:cN M B w b1 je w1)(o:Obj):cN M B w b1 (w1.heap.size::je) (w1.alloc o) where
 os:=e.os
 tape:=e.tape
 output:=e.output
 size:=by
  have:=e.size;show w.heap.size<=(w1.heap.push o).size;rw[Array.size_push];omega
 out g ak cg:=by rw[heap_alloc_old w1 o (by have:=e.size;omega)];exact e.out g ak cg
 iW:=e.iW
 jC:=e.jC
 own g ak:=by
  rcases cx.1 ak with rfl|ak
  .exact .inr e.size
  .exact e.own g ak
theorem cN.nc{M:Mem}{B:List Nat}{w w1 w2:World}{b1:Mem}{je:List Nat}(e:cN M B w b1 je w1)(h:w2.heap=w1.heap)(I:w2.os=w1.os)(aa:w2.tape=w1.tape)(aB:w2.output=w1.output):cN M B w b1 je w2 where
 os:=I.trans e.os
 tape:=aa.trans e.tape
 output:=aB.trans e.output
 size:=by rw[h];exact e.size
 out g ak cg:=by rw[h];exact e.out g ak cg
 iW:=e.iW
 jC:=e.jC
 own:=e.own
theorem cN.mf(M:Mem){B B':List Nat}(w:World)(h:∀g∈B',g∈B):cN M B w M B' w:=(cN.refl M B w).weaken h
theorem Inv.box{ts:List T}(h:Inv n R M F G (T.bq ts++H) a w)(e:Nat):Inv n R M F G ((T.box w.heap.size e ts).blocks++H) a (w.alloc (.cells (T.bP ts).toArray e)):=by
 have:=h.alloc (.cells (T.bP ts).toArray e);simpa[T.blocks]using this
theorem aaA{P:Program}{t:Nat}{z:D}(h:fC P t=some z):∃i v,P.info? t=some i/\i.zero=some v/\rG v=true/\z=uR v:=by
 unfold fC at h;cases hi:P.info? t with
 |none=>simp[hi]at h
 |some i=>
  simp only[hi,Option.bind_some]at h
  split at h
  .rename_i v av
   split at h
   .rename_i ad;simp only[aE]at h;exact⟨i,v,rfl,av,ad,h.symm⟩
   .cases h
  .cases h
theorem Ab{P:Program}{t:Nat}{i:TypeInfo}{v:Value}(hi:P.info? t=some i)(av:i.zero=some v)(w:World):(zeroValue t).run P w=.ok v w:=by
 simp[zeroValue,typeInfo,hi,av]
theorem v_{M:Mem}{P:Program}{t:Nat}{z:D}(h:fC P t=some z):∃(i:TypeInfo)(v:Value)(u:T),P.info? t=some i/\i.zero=some v/\u.erase=z/\u.val=v/\u.tidy/\dV M u/\u.blocks=[]:=by
 obtain⟨i,v,I,aa,aB,rfl⟩:=aaA h;obtain⟨u,a2,bA,a3,a4,cj⟩:=Uj (M:=M) aB;exact⟨i,v,u,I,aa,a2,bA,a3,a4,cj⟩
theorem abQ{P:Program}(h:Inv n R M F G [] a w){t:Nat}{z:D}(aG:fC P t=some z)(dst:Option Nat)(ah:∀d,dst=some d->d<n):
  ∃v w',(Instr.alloc t true (.tuple #[])).run P w=.ok v w'/\cJ n R M (keys (a8 G)) w (fin F dst (.box z.cells)) (a.put dst v) w':=by
 obtain⟨i,v,u,I,aa,rfl,rfl,bO,c7,gp⟩:=v_ (M:=M) aG;obtain⟨cF,ck,dG,fh,e0⟩:=q_ c7 bO;have ag:=Inv.box (ts:=u.cells) (H:=[]) (by rw[e0,gp];exact h) t;have:=kM (M:=M) (w:=w) (B:=keys (a8 G)) ag dG (p6 (show dV M (.box w.heap.size t u.cells)from fh)) dst ah (by
  have e:=(cN.mf M w (B:=keys (a8 G)) (B':=keys (a8 G)) (λ_ h=>h)).alloc (.cells (T.bP u.cells).toArray t);refine e.weaken λg ak=>?_;simp only[T.blocks,e0,gp,keys,b5,cz,aQ,hF,a6,hQ]at ak;rcases ak with ak|ak
  .exact fR _ ak
  .rw [ak];exact hc)
 simp only[T.erase,T.hz,cF]at this;refine⟨_,_,?_,this⟩
 .simp only[Instr.alloc,Sem.run_bind,Ab I aa,Result.andThen_ok,newVar,newRow,run_newObj,Sem.run_pure,T.val,ck,World.alloc]
theorem aaF{E:Env}(h:Inv n R M F G [] a w){t e:Nat}(aG:DG E t=some e)(dst:Option Nat)(ah:∀d,dst=some d->d<n):
  ∃v w',(Instr.alloc t true (.tuple #[])).run E.P w=.ok v w'/\cJ n R M (keys (a8 G)) w (fin F dst (.bld t e [])) (a.put dst v) w':=by
 obtain⟨i,I,aa⟩:∃i,E.P.info? t=some i/\i.zero=some (.agg #[.pointer none,.slice none 0 0]):=by
  unfold DG at aG
  split at aG
  .rename_i cs _ ku
   split at aG
   .rename_i hl;obtain⟨i,I,aa⟩:=Option.bind_eq_some_iff.1 ku;refine⟨i,I,aa.trans ?_⟩;rw[<-Array.toArray_toList (xs:=cs),hl]
   .cases aG
  .cases aG
 have ag:=Inv.box (ts:=[.leaf (.lit (.pointer none)) (.pointer none),.nil]) (H:=[]) (by simpa[T.bq,T.blocks]using h) t;have jI:(T.box w.heap.size t [.leaf (.lit (.pointer none)) (.pointer none),.nil]).blocks=(T.bld (.pointer (some ⟨w.heap.size,0,none⟩)) [(w.heap.size,.cells #[.pointer none,.slice none 0 0] t (0,0))] t e []).blocks:=by simp[T.blocks,T.bq,T.bP,T.val]
 rw[jI]at ag;have:=kM (M:=M) (w:=w) (B:=keys (a8 G)) ag trivial (p6 (show dV M _ from⟨_,_,rfl,.inl rfl,.inl ⟨rfl,rfl⟩⟩)) dst ah (by
  have e:=(cN.mf M w (B:=keys (a8 G)) (B':=keys (a8 G)) (λ_ h=>h)).alloc (.cells (T.bP [.leaf (.lit (.pointer none)) (.pointer none),.nil]).toArray t);refine e.weaken λg ak=>?_;simp only[T.blocks,keys,b5,cz,aQ,hF,a6,hQ]at ak;rcases ak with ak|ak
  .exact fR _ ak
  .rw [ak];exact hc)
 refine⟨_,_,?_,this⟩;simp only[Instr.alloc,Sem.run_bind,Ab I aa,Result.andThen_ok,newVar,newRow,run_newObj,Sem.run_pure,T.val,World.alloc,T.bP,Value.cells]
theorem aen{P:Program}{t:Nat}{v:Value}{d:D}{E:Env}(h:Inv n R M F G [] a w){x:Operand}(U:Fits n x){aX:Fr}(al:c9 E F x=some (d,aX))(dst:Option Nat)(ah:∀d,dst=some d->d<n):
  ∃v w',(Instr.box t (a.eval x)).run P w=.ok v w'/\cJ n R M (keys (a8 G)) w (fin aX dst (.box d.cells)) (a.put dst v) w':=by
 obtain⟨u,bQ,rfl,aa,aB,aW,bO,c7⟩:=vU h U al;obtain⟨cF,ck,dG,fh,e0⟩:=q_ aW aB;have ag:=Inv.box (ts:=u.cells) (H:=[]) (by rw[e0];exact bO) t;have:=kM (M:=M) (w:=w) (B:=keys (a8 G)) ag dG (p6 (show dV M (.box w.heap.size t u.cells)from fh)) dst ah (by
  have e:=(cN.mf M w (B:=keys (a8 G)) (B':=keys (a8 bQ++(u.blocks++[]))) (λg ak=>by have:=c7 g ak;simpa[keys]using this)).alloc (.cells (T.bP u.cells).toArray t);refine e.weaken λg ak=>?_;simp only[T.blocks,e0,keys,b5,cz,aQ,a6,cx]at ak⊢;rcases ak with ak|ak|ak
  .exact .inr (.inl ak)
  .exact .inl ak
  .exact .inr (.inr ak))
 simp only[T.erase,T.hz,cF]at this;refine⟨_,_,?_,this⟩
 .rw [<-aa];simp only[Instr.box,Sem.run_bind,newVar,newRow,run_newObj,Result.andThen_ok,Sem.run_pure,T.val,ck,World.alloc]
theorem Sj:∀(l:List Value)(off i:Nat)(cs:Array Value),off+i+l.length<=cs.size ->
  (l.zipIdx i).foldl (λcs (x:Value×Nat)=>cs.setIfInBounds (off+x.2) x.1) cs=(cs.toList.take (off+i)++l++cs.toList.drop (off+i+l.length)).toArray
 |[],off,i,cs,h=>by simp
 |v::l,off,i,cs,h=>by
  simp only[List.zipIdx_cons,List.foldl_cons];rw[Sj l off (i+1) (cs.setIfInBounds (off+i) v) (by simp at h⊢;omega)];have e:=list_seg_step cs.toList (off+i) v l (by simp at h⊢;omega);congr 1;simpa[Array.toList_setIfInBounds,Nat.add_assoc]using e
theorem Sg{place:Nat->Option (Nat×Nat)}{cells:Array Value}{i:Nat}{v:Value}{rest:List (Nat×Value)}{off size:Nat}(af:place i=some (off,size))(I:v.cells.size=size)(aa:off+size<=cells.size):
  Instr.fill place cells ((i,v)::rest)=Instr.fill place (cells.toList.take off++v.cells.toList++cells.toList.drop (off+size)).toArray rest:=by
 simp only[Instr.fill,af];have ad:(decide (v.cells.size≠size) || decide (off+v.cells.size > cells.size))=false:=by
  simp only[I,ne_eq,not_true_eq_false,decide_false,Bool.false_or,decide_eq_false_iff_not];omega
 rw[ad];simp only[bo,if_false];congr 1;have:=Sj v.cells.toList off 0 cells (by simp;omega);rw[Nat.add_zero]at this;rw[<-Array.foldl_toList,Array.toList_zipIdx];rw[show(off+size)=off+v.cells.toList.length by simp[I]];exact this
theorem Td{M:Mem}{place:Nat->Option (Nat×Nat)}:∀(ps:List (Nat×T)){ts:List T}{cs:List D},(∀x∈ps,x.2.tidy/\dV M x.2)->T.ho ts->T.ga M ts->rL place (ts.map T.erase) (ps.map λx=>(x.1,x.2.erase))=some cs ->
  ∃gM,gM.map T.erase=cs/\Instr.fill place (T.bP ts).toArray (ps.map λx=>(x.1,x.2.val))=some (T.bP gM).toArray/\T.ho gM/\T.ga M gM /\
   ∃rest,(T.bq gM++rest).Perm (T.bq ts++T.bq (ps.map Prod.snd))
 |[],ts,cs,_,al,hw,h=>by
  simp only[hF,rL,aE]at h;subst h;exact⟨ts,rfl,rfl,al,hw,[],by simp[T.bq]⟩
 |(i,t)::ps,ts,cs,af,al,hw,h=>by
  simp only[aQ,rL]at h;cases vf:place i with
  |none=>simp[vf]at h
  |some q=>
   obtain⟨off,size⟩:=q;simp only[vf]at h
   split at h
   .rename_i ad;obtain⟨xa,n4⟩:=ad;obtain⟨c5,eo⟩:=af (i,t) (by simp);obtain⟨cF,ck,dG,fh,e0⟩:=q_ eo c5;have hlen:t.cells.length=size:=by rw[<-xa,<-cF];simp
    rw[<-cF,<-gD,<-fW,<-cz,<-cz]at h;have pN:T.ho (ts.take off++t.cells++ts.drop (off+size)):=by
     rw[T.o4]at al dG⊢;intro x U;rcases a6.1 U with U|U
     .rcases a6.1 U with U|U
      .exact al x (aM U)
      .exact dG x U
     .exact al x (ba U)
    have pO:T.ga M (ts.take off++t.cells++ts.drop (off+size)):=by
     rw[T.q6]at hw fh⊢;intro x U;rcases a6.1 U with U|U
     .rcases a6.1 U with U|U
      .exact hw x (aM U)
      .exact fh x U
     .exact hw x (ba U)
    obtain⟨gM,cb,cK,cS,dh,rest,dr⟩:=Td ps (λx U=>af x (by simp[U])) pN pO h;refine⟨gM,cb,?_,cS,dh,rest++T.bq ((ts.drop off).take size),?_⟩
    .rw [aQ,Sg vf (v:=t.val)]
     .rw [<-cK];congr 1;simp only[T.XI,ck];simp[T.ny,gD,fW]
     .have:=congrArg List.length ck;simp at this;omega
     .simp at n4⊢;exact n4
    .rw [<-ie];refine(dr.append_right _).trans ?_;have r0:T.bq ts=T.bq (ts.take off)++(T.bq ((ts.drop off).take size)++T.bq (ts.drop (off+size))):=by
      rw[<-T.wS,<-List.drop_drop,bB,<-T.wS,bB]
     rw[r0];simp only[T.wS,aQ,T.bq,e0,ie];refine bL _ ?_;refine eW ?_ (b3 _ _ _);refine eW ?_ (bL _ (b3 _ _ _).symm);refine eW ?_ (b3 _ _ _);refine bL _ ?_;refine bL _ ?_;exact List.perm_append_comm
   .cases h
end
end Go.aS
