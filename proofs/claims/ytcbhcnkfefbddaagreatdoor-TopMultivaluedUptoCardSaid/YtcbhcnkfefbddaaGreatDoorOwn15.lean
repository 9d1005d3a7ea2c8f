/- An interpreter of function bodies, sound. No conditions. -/
import Derived.Test.YtcbhcnkfefbddaaGreatDoorOwn14
set_option linter.all false
open Bool renaming and_eq_true->aA,false_eq_true->aQ,or_eq_true->bo,not_eq_true'->b3,or_eq_false_iff->sv,or_false->tQ,false_or->tR,false_ne_true->vM
open List renaming mem_singleton->aM,all_eq_true->a6,mem_append->bB,mem_cons->cc,pairwise_append->cu,map_cons->cD,pairwise_singleton->cA,mem_map->cT,mem_append_right->c_,drop_eq_getElem_cons->du,mem_append_left->dR,getElem?_eq_some_iff->fx,mem_range->fB,contains_eq_mem->fR,any_cons->gD,mem_filter->hb,mem_cons_self->hP,any_eq_true->hQ,not_mem_nil->hc,take_append_drop->ie,range->hR,filterMap_cons->ig,pairwise_cons->hq,filterMap_nil->iZ,nodup_cons->mS,range'->lI,take_zero->mi,contains_iff_mem->q8,toList_toArray->su,map_congr_left->vK,take_succ_cons->vL,nodup_append->Ch,length_nil->vN,nil_append->Ci,map_append->Cj,drop_zero->Ck
open Prod.mk renaming injEq->ba
open Option renaming map_some->bL,getD_some->cx,map_eq_some_iff->gj,bind_some->gC,isSome_iff_exists->hF,isNone_iff_eq_none->kf,getD_none->jr,map_map->nA
open Array renaming getElem?_eq_getElem->b5,getElem?_eq_some_iff->cz,getD_eq_getD_getElem?->eb,replicate->kH,all_eq_true->zD
open Nat renaming eq_of_beq_eq_true->dn,le_refl->fW,lt_or_ge->zC
open List.Pairwise renaming nil->eW
namespace Go.aS
open D
def dF(A B:Fr):Prop:=∀s,kK (get A s)=true∨get B s=get A s
def Seen(A:Fr)(x:Operand):Prop:=∀t,x=.tmp t->kK (get A t)=false
theorem q9{d:D}:kK d=true↔d=.undef:=by cases d<;>simp[kK]
section
variable{E:Env}{A B:Fr}
theorem dF.seen(h:dF A B){x:Operand}(U:Seen A x){t:Nat}(al:x=.tmp t):get B t=get A t:=by
 rcases h t with h|h
 .rw [U t al]at h;cases h
 .exact h
theorem gQ(h:dF A B){x:Operand}(U:Seen A x):aZ E B x=aZ E A x:=by
 cases x with
 |tmp t=>simp only[aZ,h.seen U rfl]
 |_=>rfl
theorem jb(h:dF A B){s:Nat}{ps:Path}{c:D}(ad:b6 A s ps=some c)(ao:c≠.undef):b6 B s ps=some c:=by
 unfold b6 at ad⊢;rcases h s with h|h
 .rw [q9]at h;rw[h]at ad;cases ps with
  |nil=>simp only[D.bw,aE]at ad;exact absurd ad.symm ao
  |cons p ps=>obtain⟨i,o⟩:=p;simp[D.bw,D.elem]at ad
 .rw [h];exact ad
theorem CF(h:dF A B){d:D}{p:Ptr}(af:gB A d=some p):gB B d=some p:=by
 cases d with
 |alias s ps=>
  simp only[gB]at af⊢
  split at af
  .rename_i ak;rw[jb h ak (by simp)];exact af
  .rename_i ak;rw[jb h ak (by simp)];exact af
  .cases af
 |_=>exact af
theorem Cq(h:dF A B){d:D}{es:List (List D)}(af:gU A d=some es):gU B d=some es:=by
 cases d with
 |alias s ps=>
  simp only[gU]at af⊢
  split at af
  .rename_i ak;rw[jb h ak (by simp)];exact af
  .rename_i ak;rw[jb h ak (by simp)];exact af
  .cases af
 |sub s ps i k=>
  simp only[gU]at af⊢
  split at af
  .rename_i ak;rw[jb h ak (by simp)];exact af
  .rename_i ak;rw[jb h ak (by simp)];exact af
  .cases af
 |_=>exact af
theorem aaa(h:dF A B){t:Nat}{x d:D}(af:oa E A t x=some d):oa E B t x=some d:=by
 unfold oa at af⊢
 split at af
 .cases af
 .rename_i hu;rw[if_neg hu]
  split at af
  .rename_i cs au;rw[CF h au];exact af
  .rename_i s ps i o au;rw[CF h au]
   try simp only
   split at af
   .rename_i eM ak;rw[jb h ak (by rintro rfl;simp[D.elem]at af)];exact af
   .cases af
  .cases af
theorem Ym(h:dF A B){t:Nat}{x i d:D}(af:nm E A t x i=some d):nm E B t x i=some d:=by
 unfold nm at af⊢
 split at af
 .cases af
 .rename_i k aj
  try simp only
  split at af
  .rename_i e he
   try simp only
   split at af
   .exact af
   .rename_i s ps
    try simp only
    split at af
    .rename_i es ak;rw[jb h ak (by simp)];exact af
    .rename_i es ak;rw[jb h ak (by simp)];exact af
    .cases af
   .rename_i s ps off len
    try simp only
    split at af
    .rename_i hl;rw[if_pos hl]
     split at af
     .rename_i es ak;rw[jb h ak (by simp)];exact af
     .rename_i es ak;rw[jb h ak (by simp)];exact af
     .cases af
    .cases af
   .cases af
  .rename_i he
   try simp only
   split at af
   .rename_i m e aC
    try simp only
    split at af
    .rename_i hm;rw[if_pos hm]
     split at af
     .cases af
     .rename_i aG;rw[if_neg aG]
      split at af
      .rename_i au;rw[CF h au];exact af
      .rename_i au;rw[CF h au];exact af
      .cases af
    .cases af
   .cases af
theorem abb(h:dF A B){t:Nat}{x d:D}(af:vl E A t x=some d):vl E B t x=some d:=by
 unfold vl at af⊢
 split at af
 .exact af
 .exact af
 .simp only[gj]at af⊢;obtain⟨es,he,aU⟩:=af;exact⟨es,Cq h he,aU⟩
 .rename_i s ps
  try simp only
  split at af
  .rename_i ak;rw[jb h ak (by simp)];exact af
  .cases af
 .cases af
theorem YD(h:dF A B){s t:Nat}{x d:D}(af:wV E A s t x=some d):wV E B s t x=some d:=by
 unfold wV at af⊢
 split at af
 .exact af
 .exact af
 .exact af
 .exact af
 .rename_i e _ _
  try simp only
  split at af
  .rename_i es he fk;rw[Cq h fk,he];exact af
  .cases af
 .cases af
theorem Zy(h:dF A B){t:Nat}{x d:D}{l aU:Option Nat}(af:oe E A t x l aU=some d):oe E B t x l aU=some d:=by
 unfold oe at af⊢
 split at af
 .exact af
 .exact af
 .try simp only
  split at af
  .rename_i e es he fk;rw[Cq h fk,he];exact af
  .cases af
 .try simp only
  split at af
  .rename_i e es he fk;rw[Cq h fk,he];exact af
  .cases af
 .cases af
theorem YQ(h:dF A B){t:Nat}{x k d:D}{ok:Bool}(af:xm E A t x k ok=some d):xm E B t x k ok=some d:=by
 unfold xm at af⊢
 split at af
 .try simp only
  split at af
  .rename_i es z ak aG;rw[jb h ak (by simp),aG];exact af
  .cases af
 .cases af
theorem Rj(h:dF A B):∀{xs:List Operand},(∀x∈xs,Seen A x)->uO E B xs=uO E A xs
 |[],_=>rfl
 |x::xs,ae=>by
  simp only[uO];rw[gQ h (ae x (by simp)),Rj h (λy aw=>ae y (by simp[aw]))]
theorem JO(h:dF A B){s:Nat}{ps:Path}{d:D}(af:kW A s ps=some d):kW B s ps=some d:=by
 unfold kW at af⊢
 split at af
 .rename_i c ak;rw[jb h ak (by rintro rfl;simp[D.freeze]at af)];exact af
 .cases af
theorem RU(h:dF A B){d bf:D}(af:fu A d=some bf):fu B d=some bf:=by
 cases d with
 |alias s ps=>exact JO h af
 |sub s ps i k=>
  simp only[fu]at af⊢;cases hf:kW A s ps with
  |none=>simp[hf]at af
  |some x=>rw[hf]at af;rw[JO h hf];exact af
 |place s ps i k=>
  simp only[fu]at af⊢;cases hf:kW A s ps with
  |none=>simp[hf]at af
  |some x=>rw[hf]at af;rw[JO h hf];exact af
 |_=>exact af
theorem Kd(h:dF A B):∀{cs az:List D},jR A cs=some az->jR B cs=some az
 |[],_,af=>af
 |c::cs,az,af=>by
  simp only[jR]at af⊢
  split at af
  .rename_i c' b8 I aa;rw[RU h I,Kd h aa];exact af
  .cases af
theorem aaq(h:dF A B){d bf:D}(af:eV A d=some bf):eV B d=some bf:=by
 have one:∀c,(∀F,eV F c=fu F c)->eV A c=some bf->eV B c=some bf:=λc e ad=>by
  rw[e]at ad⊢;exact RU h ad
 cases d with
 |agg cs=>
  simp only[eV,gj]at af⊢;obtain⟨b8,I,aa⟩:=af;exact⟨b8,Kd h I,aa⟩
 |fn f cs=>
  simp only[eV,gj]at af⊢;obtain⟨b8,I,aa⟩:=af;exact⟨b8,Kd h I,aa⟩
 |_=>exact one _ (λ_=>rfl) af
theorem So(h:dF A B){d:D}(af:nk A d=true):nk B d=true:=by
 cases d with
 |alias s ps=>
  simp only[nk]at af⊢
  split at af
  .rename_i ak;rw[jb h ak (by simp)]
  .rename_i ak;rw[jb h ak (by simp)]
  .cases af
 |sub s ps i k=>
  simp only[nk]at af⊢
  split at af
  .rename_i ak;rw[jb h ak (by simp)]
  .rename_i ak;rw[jb h ak (by simp)]
  .cases af
 |_=>exact af
theorem aa9(h:dF A B){d:D}(af:qT A d=true):qT B d=true:=by
 have l:∀{cs:List D},cs.all (nk A)=true->cs.all (nk B)=true:=λad=>by
  rw[a6]at ad⊢;exact λx U=>So h (ad x U)
 have one:∀c,(∀F,qT F c=nk F c)->qT A c=true->qT B c=true:=λc e ad=>by
  rw[e]at ad⊢;exact So h ad
 cases d with
 |agg cs=>exact l af
 |fn f cs=>exact l af
 |_=>exact one _ (λ_=>rfl) af
theorem J9(h:dF A B){x:Operand}(U:Seen A x){d:D}(af:ov E A x=some d):ov E B x=some d:=by
 cases x with
 |tmp t=>
  simp only[ov,h.seen U rfl]at af⊢
  split at af
  .exact af
  .exact af
  .exact af
  .exact af
  .exact af
  .rename_i s ps ak
   try simp only
   split at af
   .rename_i ak;rw[jb h ak (by simp)];exact af
   .rename_i ak;rw[jb h ak (by simp)];exact af
   .cases af
  .cases af
 |_=>exact af
theorem JH(h:dF A B):∀{ps:List (Nat×Operand)}{az:List (Nat×D)},(∀p∈ps,Seen A p.2)->o8 E A ps=some az->o8 E B ps=some az
 |[],_,_,af=>af
 |(i,x)::ps,az,ae,af=>by
  simp only[o8]at af⊢
  split at af
  .rename_i d m9 I aa;rw[J9 h (ae (i,x) (by simp)) I,JH h (λp af=>ae p (by simp[af])) aa];exact af
  .cases af
theorem R1(h:dF A B){c:Operand}(ad:Seen A c){b:Arg}(ag:∀x,b=.gK x->Seen A x):j4 E B c b=j4 E A c b:=by
 cases b with
 |gK x=>exact gQ (E:=E) h (ag x rfl)
 |cap j=>simp only[j4,HJ,gQ h ad]
theorem Qt(h:dF A B){f:Nat}{c:Operand}(ad:Seen A c){l:Option D}:∀{bs:List Arg}{i:Nat}{ms:List (Option D)}{az:List D},(∀b∈bs,∀x,b=.gK x->Seen A x)->gu E f A A c l i bs ms=some az->gu E f B B c l i bs ms=some az
 |[],i,ms,az,_,af=>by cases ms<;>exact af
 |b::bs,i,[],az,_,af=>by simp[gu]at af
 |b::bs,i,m::ms,az,ag,af=>by
  simp only[gu]at af⊢;rw[R1 h ad (ag b (by simp))]
  split at af
  .rename_i d m9 I aa;rw[Qt h ad (λy aw=>ag y (by simp[aw])) aa];have:q2 m (E.mode f i) l ((j4 E A c b).bind (eV B))=some d:=by
    cases m with
    |some x=>exact I
    |none=>
     cases hm:E.mode f i with
     |eF=>rw[hm]at I;exact I
     |move=>rw[hm]at I;exact I
     |snap=>
      rw[hm]at I;simp only[q2]at I⊢;cases aC:j4 E A c b with
      |none=>simp[aC]at I
      |some x=>rw[aC]at I;exact aaq h I
   rw[this];exact af
  .cases af
theorem Qv(h:dF A B){f:Nat}{c:Operand}(ad:Seen A c):∀{bs:List Arg}{i:Nat},(∀b∈bs,∀x,b=.gK x->Seen A x)->iu E f B c i bs=iu E f A c i bs
 |[],_,_=>rfl
 |b::bs,i,ag=>by
  simp only[iu];rw[R1 h ad (ag b (by simp)),Qv h ad (λy aw=>ag y (by simp[aw]))]
theorem abB{f:Nat}{call:Nat->List D->Option (D×List D)}(h:dF A B){o:Oper}(ae:∀x∈o.op.operands.toList,Seen A x){d:D}(av:dJ E f call A o=some d):dJ E f call B o=some d:=by
 unfold dJ at av⊢;cases au:o.op with
 |move x=>
  rw[au]at av ae;have U:=ae x (by simp[Op.operands]);simp only at av⊢;cases x with
  |tmp t=>simp only[h.seen U rfl,aZ]at av⊢;exact av
  |_=>exact av
 |assign x=>
  rw[au]at av ae;have U:=ae x (by simp[Op.operands]);simp only at av⊢;cases x with
  |tmp t=>simp only[h.seen U rfl]at av⊢;exact av
  |_=>exact av
 |pick c x y=>
  rw[au]at av ae;simp only[gQ h (ae c (by simp[Op.operands])),gQ h (ae x (by simp[Op.operands])),gQ h (ae y (by simp[Op.operands]))]at av⊢
  split at av
  .rename_i t al;cases t
   .simp only[aQ,if_false]at av⊢;rw[gQ h (ae y (by simp[Op.operands]))];exact av
   .simp only[if_true]at av⊢;rw[gQ h (ae x (by simp[Op.operands]))];exact av
  .cases av
 |alloc t=>rw[au]at av;exact av
 |box t x=>
  rw[au]at av ae;simp only at av⊢;cases ak:ov E A x with
  |none=>simp[ak]at av
  |some bf=>rw[ak]at av;rw[J9 h (ae x (by simp[Op.operands])) ak];exact av
 |build t ps=>
  rw[au]at av ae;simp only at av⊢;have oQ:∀p∈ps.toList,Seen A p.2:=λp af=>ae p.2 (by simp only[Op.operands,su];exact cT.2 ⟨p,af,rfl⟩);cases aG:fC E.P t with
  |none=>simp[aG]at av
  |some z=>
   cases af:o8 E A ps.toList with
   |none=>simp[aG,af]at av
   |some az=>rw[aG,af]at av;rw[JH h oQ af];exact av
 |buildSlice t m ps=>
  rw[au]at av ae;simp only at av⊢;have oQ:∀p∈ps.toList,Seen A p.2:=λp af=>ae p.2 (by simp only[Op.operands,su];exact cT.2 ⟨p,af,rfl⟩);cases iE:eD E.P t with
  |none=>simp[iE]at av
  |some e=>
   simp only[iE]at av⊢;cases aG:fC E.P e with
   |none=>simp[aG]at av
   |some z=>
    cases af:o8 E A ps.toList with
    |none=>simp[aG,af]at av
    |some az=>rw[aG,af]at av;rw[JH h oQ af];exact av
 |load t x=>
  rw[au]at av ae;simp only[gQ h (ae x (by simp[Op.operands]))]at av⊢;cases an:aZ E A x with
  |none=>simp[an]at av
  |some d1=>simp only[an]at av⊢;exact aaa h av
 |nilCheck x=>
  rw[au]at av ae;simp only[gQ h (ae x (by simp[Op.operands]))]at av⊢
  split at av
  .try simp only
   split at av
   .rename_i ak;rw[jb h ak (by simp)];exact av
   .rename_i ak;rw[jb h ak (by simp)];exact av
   .cases av
  .exact av
  .exact av
  .cases av
 |binOp op t x y Ya=>
  rw[au]at av ae;simp only[gQ h (ae x (by simp[Op.operands])),gQ h (ae y (by simp[Op.operands]))]at av⊢;exact av
 |unOp op t x=>
  rw[au]at av ae;simp only[gQ h (ae x (by simp[Op.operands]))]at av⊢;exact av
 |convert s t x=>
  rw[au]at av ae;simp only[gQ h (ae x (by simp[Op.operands]))]at av⊢;cases an:aZ E A x with
  |none=>simp[an]at av
  |some d1=>simp only[an]at av⊢;exact YD h av
 |makeFunc fn first ey=>
  rw[au]at av ae;cases fn with
  |func g=>
   simp only at av⊢;rw[Rj h (λx U=>ae x (by simp[Op.operands];right;simpa using U))];exact av
  |_=>cases av
 |makeMap t r=>rw[au]at av;cases r<;>exact av
 |makeSlice t l c=>
  rw[au]at av ae;simp only[gQ h (ae l (by simp[Op.operands])),gQ h (ae c (by simp[Op.operands]))]at av⊢;exact av
 |slice t x lo hi mx=>
  rw[au]at av ae;cases mx with
  |some m=>cases av
  |none=>
   have ol:iK E B lo=iK E A lo:=by
    cases lo with
    |none=>rfl
    |some y=>simp only[iK,gQ h (ae y (by simp[Op.operands]))]
   have Pk:iK E B hi=iK E A hi:=by
    cases hi with
    |none=>rfl
    |some y=>simp only[iK,gQ h (ae y (by simp[Op.operands]))]
   simp only[gQ h (ae x (by simp[Op.operands])),ol,Pk]at av⊢;cases an:aZ E A x with
   |none=>simp[an]at av
   |some d1=>
    cases hl:iK E A lo with
    |none=>simp[an,hl]at av
    |some l=>
     cases aU:iK E A hi with
     |none=>simp[an,hl,aU]at av
     |some hi'=>simp only[an,hl,aU]at av⊢;exact Zy h av
 |fieldAddr t x j=>
  rw[au]at av ae;simp only[gQ h (ae x (by simp[Op.operands]))]at av⊢;cases hf:n1 E.P t j with
  |none=>simp[hf]at av
  |some fd=>
   cases an:aZ E A x with
   |none=>simp[hf,an]at av
   |some d1=>
    cases af:gB A d1 with
    |none=>simp[hf,an,af]at av
    |some p=>simp only[hf,an,gC,af,CF h af]at av⊢;exact av
 |field t x j=>
  rw[au]at av ae;simp only[gQ h (ae x (by simp[Op.operands]))]at av⊢;exact av
 |indexAddr t x ix=>
  rw[au]at av ae;simp only[gQ h (ae x (by simp[Op.operands])),gQ h (ae ix (by simp[Op.operands]))]at av⊢;cases an:aZ E A x with
  |none=>simp[an]at av
  |some d1=>
   cases g9:aZ E A ix with
   |none=>simp[an,g9]at av
   |some d2=>simp only[an,g9]at av⊢;exact Ym h av
 |index t x ix=>
  rw[au]at av ae;simp only[gQ h (ae x (by simp[Op.operands])),gQ h (ae ix (by simp[Op.operands]))]at av⊢;exact av
 |lookup t x k ok=>
  rw[au]at av ae;simp only[gQ h (ae x (by simp[Op.operands])),gQ h (ae k (by simp[Op.operands]))]at av⊢;cases an:aZ E A x with
  |none=>simp[an]at av
  |some d1=>
   cases g9:aZ E A k with
   |none=>simp[an,g9]at av
   |some d2=>simp only[an,g9]at av⊢;exact YQ h av
 |extract x i=>
  rw[au]at av ae;have U:=ae x (by simp[Op.operands]);cases x with
  |tmp t=>simp only[h.seen U rfl]at av⊢;exact av
  |_=>cases av
 |call c=>
  rw[au]at av ae;simp only at av⊢;have iC:∀x∈c.args.toList,Seen A x:=λx gJ=>ae x (by simp[Op.operands,Call.operands];right;simpa using gJ);cases ad:c.callee with
  |invoke=>rw[ad]at av;cases av
  |value x=>
   rw[ad]at av;have U:Seen A x:=ae x (by simp[Op.operands,Call.operands,ad]);simp only[gQ h U]at av⊢;cases an:aZ E A x with
   |none=>simp[an]at av
   |some rJ=>
    cases rJ with
    |fn g ey=>
     simp only[an]at av⊢
     split at av
     .rename_i vh;simp only[vh,if_true];have VS:∀b∈gF c.args.toList ey.length,∀y,b=.gK y->Seen A y:=λb ag y aw=>by
       subst aw;simp only[gF,bB,cT,Arg.gK.injEq,exists_eq_right,reduceCtorEq,and_false,exists_false,or_false]at ag;exact iC y ag
      cases af:gu E g A A x none 0 (gF c.args.toList ey.length) ((gF c.args.toList ey.length).map λ_=>none)with
      |none=>simp[af]at av
      |some az=>
       simp only[af]at av;simp only[Qt h U VS af,Qv h U VS]
       split at av
       .rename_i r db
        split at av
        .rename_i hf;have:(r.ln || (iu E g A x 0 (gF c.args.toList ey.length)).all (qT B))=true:=by
          simp only[bo]at hf⊢;rcases hf with hf|hf
          .exact .inl hf
          .right;rw[a6]at hf⊢;exact λy aw=>aa9 h (hf y aw)
         simp only[this,if_true];exact av
        .cases av
       .cases av
     .cases av
    |_=>simp[an]at av
  |builtin b=>
   rw[ad]at av
   try simp only at av⊢
   cases b with
   |len=>
    simp only at av⊢
    split at av
    .rename_i x t ts eS lu;simp only[gQ h (iC x (by rw[eS];simp))]at av⊢;cases an:aZ E A x with
     |none=>simp[an]at av
     |some d1=>simp only[an]at av⊢;exact abb h av
    .cases av
   |max=>
    simp only at av⊢
    split at av
    .rename_i x y eS;simp only[gQ h (iC x (by rw[eS];simp)),gQ h (iC y (by rw[eS];simp))]at av⊢;exact av
    .cases av
   |min=>
    simp only at av⊢
    split at av
    .rename_i x y eS;simp only[gQ h (iC x (by rw[eS];simp)),gQ h (iC y (by rw[eS];simp))]at av⊢;exact av
    .cases av
   |_=>cases av
 |_=>rw[au]at av;cases av
theorem FZ{ops:Array Oper}{o:Oper}(h:jZ ops A o=true):(∀x∈o.op.operands.toList,Seen A x)/\∀t∈z7 ops o,kK (get A t)=false:=by
 unfold jZ at h;rw[a6]at h;refine⟨λx U t al=>?_,λt al=>?_⟩
 .have:=h t (dR _ (by unfold iN;rw[List.mem_filterMap];exact⟨x,U,by rw[al]⟩));simpa using this
 .have:=h t (c_ _ al);simpa using this
theorem QN(h:dF A B){ops:Array Oper}{o:Oper}(ae:∀t∈z7 ops o,kK (get A t)=false):fV ops B o=fV ops A o:=by
 unfold fV;cases ak:o.guard with
 |none=>rfl
 |some q=>
  obtain⟨j,b⟩:=q
  try simp only
  cases al:(ops[j]?).bind (·.dst)with
  |none=>rfl
  |some t=>
   have:get B t=get A t:=by
    rcases h t with h|h
    .rw [ae t (by unfold z7;simp[ak,al])]at h;cases h
    .exact h
   simp only[this]
theorem zO{f:Nat}{call:Nat->List D->Option (D×List D)}(h:dF A B){ops:Array Oper}{o:Oper}(ae:jZ ops A o=true){d:D}(av:e5 E f call ops A o=some d):e5 E f call ops B o=some d:=by
 obtain⟨I,aa⟩:=FZ ae;unfold e5 at av⊢;rw[QN h aa]
 split at av
 .exact abB h I av
 .exact av
 .cases av
end
end Go.aS
namespace Go.aS
open D
abbrev iz:=List (Nat×D)
abbrev kS:=List (Nat×iz)
def b0(L:Nat->Bool):kS->Fr->Fr
 |[],F=>F
 |(i,p)::r,F=>b0 L r (if L i then eB p F else F)
def eH(F:Fr)(t:Nat):Bool:=F.any λx=>x.1==t
def eI(F:Fr):List Nat:=F.map (·.1)
theorem xQ(F:Fr)(s t:Nat)(d:D)(h:eH F t=true):eH (cf F s d) t=true:=by
 induction F with
 |nil=>simp[eH]at h
 |cons x r aN=>
  simp only[cf]
  split
  .rename_i aj;subst aj;simpa[eH]using h
  .simp only[eH,gD,bo]at h⊢;rcases h with h|h
   .exact .inl h
   .exact .inr (aN h)
theorem SI:∀(F:Fr){s t:Nat}(d e:D),s≠t->eH F s=true->eH F t=true->cf (cf F s d) t e=cf (cf F t e) s d
 |[],s,t,d,e,_,h,_=>by simp[eH]at h
 |(k,x)::r,s,t,d,e,c8,I,aa=>by
  by_cases ae:k=s
  .subst ae;have al:k≠t:=c8;simp[cf,al]
  .by_cases al:k=t
   .subst al;simp[cf,ae]
   .have yI:eH r s=true:=by simpa[eH,ae]using I
    have AT:eH r t=true:=by simpa[eH,al]using aa
    simp only[cf,ae,al,if_false,SI r d e c8 yI AT]
theorem CV{F:Fr}{t:Option Nat}{d:D}(s:Nat):get (lF F t d) s=if t=some s then d else get F s:=by
 cases t with
 |none=>simp[lF]
 |some t=>
  simp only[lF];by_cases h:t=s
  .subst h;simp[H0]
  .simp [h,Vv F d (Ne.symm h)]
theorem hs{F:Fr}{s:Nat}{d:D}(q:Nat):get (cf F s d) q=if s=q then d else get F q:=by
 have:=CV (F:=F) (t:=some s) (d:=d) q;simpa[lF]using this
theorem Rz{F:Fr}{s:Nat}(h:get F s≠.undef):eH F s=true:=by
 induction F with
 |nil=>exact absurd rfl h
 |cons x r aN=>
  obtain⟨k,d⟩:=x;simp only[get]at h;simp only[eH,gD,bo,beq_iff_eq]
  split at h
  .rename_i aj;exact .inl aj
  .exact .inr (aN h)
theorem xY(pE:List Nat):∀(F:Fr)(s:Nat),get (gm pE F) s=if pE.contains s then .undef else get F s
 |[],s=>by simp[gm,get]
 |(k,d)::r,s=>by
  have aN:=xY pE r s;simp only[gm,cD]at aN⊢;by_cases aj:k=s
  .subst aj
   split
   .simp [get]
   .simp [get]
  .split<;>simp only[get,aj,if_false]<;>exact aN
def oz:iz->Nat->Option D
 |[],_=>none
 |(t,d)::r,s=>match oz r s with
  |some e=>some e
  |none=>if t=s then some d else none
theorem vT:∀{p:iz}{F:Fr}(s:Nat),get (eB p F) s=(oz p s).getD (get F s)
 |[],_,_=>rfl
 |(t,d)::r,F,s=>by
  rw[eB,vT,oz];cases oz r s with
  |some e=>rfl
  |none=>
   simp only[jr];rw[hs]
   split<;>rfl
theorem CC:∀{p:iz}{s:Nat},dp p s=false->oz p s=none
 |[],_,_=>rfl
 |(t,d)::r,s,h=>by
  simp only[dp,gD,sv]at h;rw[oz,CC (p:=r) (by simpa[dp]using h.2)];have:t≠s:=by simpa using h.1
  simp only[if_neg this]
theorem RJ:∀{p:iz}{s:Nat},dp p s=true->∃d,oz p s=some d
 |[],_,h=>by simp[dp]at h
 |(t,d)::r,s,h=>by
  rw[oz];cases hl:oz r s with
  |some e=>exact⟨e,rfl⟩
  |none=>
   simp only[dp,gD,bo]at h;rcases h with h|h
   .have:t=s:=by simpa using h
    exact⟨d,by simp only[if_pos this]⟩
   .obtain ⟨e,he⟩:=RJ (p:=r) (s:=s) (by simpa[dp]using h);rw[hl]at he;cases he
theorem p3{p:iz}{F:Fr}{s:Nat}(h:dp p s=false):get (eB p F) s=get F s:=by rw[vT,CC h];rfl
theorem Qd{p:iz}{F aD:Fr}{s:Nat}(h:dp p s=true):get (eB p F) s=get (eB p aD) s:=by
 obtain⟨d,ah⟩:=RJ h;rw[vT,vT,ah];rfl
theorem zH:∀{p:iz}{F:Fr}{t:Nat},eH F t=true->eH (eB p F) t=true
 |[],_,_,h=>h
 |(s,d)::r,F,t,h=>zH (p:=r) (xQ F s t d h)
theorem nB:∀{F:Fr}{s:Nat}{d:D},eH F s=true->eI (cf F s d)=eI F
 |[],_,_,h=>by simp[eH]at h
 |(k,x)::r,s,d,h=>by
  simp only[cf]
  split
  .rename_i aj;subst aj;rfl
  .rename_i aj;have:eH r s=true:=by simpa[eH,aj]using h
   show k::eI (cf r s d)=k::eI r;rw[nB this]
theorem Cu:∀{p:iz}{F:Fr},(∀x∈p,eH F x.1=true)->eI (eB p F)=eI F
 |[],_,_=>rfl
 |(s,d)::r,F,h=>by
  rw[eB,Cu (λx U=>xQ F s x.1 d (h x (by simp[U]))),nB (h (s,d) (by simp))]
theorem kI{F:Fr}{s:Nat}:eH F s=true↔s∈eI F:=by
 unfold eH eI;simp only[hQ,beq_iff_eq,cT]
theorem CK:∀{A B:Fr},eI A=eI B->(eI A).Nodup->(∀s,get A s=get B s)->A=B
 |[],[],_,_,_=>rfl
 |[],_::_,h,_,_=>by simp[eI]at h
 |_::_,[],h,_,_=>by simp[eI]at h
 |(k,x)::A,(k',y)::B,h,ao,ak=>by
  have I:k=k'/\eI A=eI B:=by simpa[eI]using h
  obtain⟨rfl,aa⟩:=I;have pG:k ∉ eI A/\(eI A).Nodup:=by simpa[eI]using ao
  have akk:x=y:=by have:=ak k;simpa[get]using this
  subst akk;have:A=B:=CK aa pG.2 λs=>by
   by_cases ae:k=s
   .subst ae;have a2:get A k=.undef:=by
     false_or_by_contra
     rename_i cI;exact pG.1 (kI.1 (Rz cI))
    have bA:get B k=.undef:=by
     false_or_by_contra
     rename_i cI;exact pG.1 (by rw[aa];exact kI.1 (Rz cI))
    rw[a2,bA]
   .have:=ak s;simpa[get,ae]using this
  rw[this]
theorem RP:∀{q:iz}{F:Fr}{s:Nat}{d:D},dp q s=false->eH F s=true->(∀x∈q,eH F x.1=true)->eB q (cf F s d)=cf (eB q F) s d
 |[],_,_,_,_,_,_=>rfl
 |(t,e)::r,F,s,d,I,aa,aB=>by
  simp only[dp,gD,sv]at I;have e3:t≠s:=by simpa using I.1
  rw[eB,eB,SI F d e (Ne.symm e3) aa (aB (t,e) (by simp))];exact RP (by simpa[dp]using I.2) (xQ F t s e aa) λx U=>xQ F t x.1 e (aB x (by simp[U]))
theorem RQ:∀{p q:iz}{F:Fr},(∀x∈p,dp q x.1=false)->(∀x∈p,eH F x.1=true)->(∀x∈q,eH F x.1=true)->eB p (eB q F)=eB q (eB p F)
 |[],_,_,_,_,_=>rfl
 |(s,d)::r,q,F,I,aa,aB=>by
  rw[eB,eB,<-RP (I (s,d) (by simp)) (aa (s,d) (by simp)) aB];exact RQ (λx U=>I x (by simp[U])) (λx U=>xQ F s x.1 d (aa x (by simp[U]))) λx U=>xQ F s x.1 d (aB x U)
structure Mx(F:Fr)(rs:kS):Prop where
 key:∀x∈rs,∀y∈x.2,eH F y.1=true
 idx:(rs.map (·.1)).Nodup
theorem J7{L:Nat->Bool}:∀{rs:kS}{F:Fr}{t:Nat},eH F t=true->eH (b0 L rs F) t=true
 |[],_,_,h=>h
 |(i,p)::rs,F,t,h=>by
  simp only[b0];refine J7 ?_
  split
  .exact zH h
  .exact h
theorem zJ{L:Nat->Bool}:∀{rs pZ:kS}{F:Fr},b0 L (rs++pZ) F=b0 L pZ (b0 L rs F)
 |[],_,_=>rfl
 |(i,p)::rs,pZ,F=>by simp only[List.cons_append,b0];exact zJ
theorem xS{L L':Nat->Bool}:∀{rs:kS}{F:Fr},(∀x∈rs,L x.1=L' x.1)->b0 L rs F=b0 L' rs F
 |[],_,_=>rfl
 |(i,p)::rs,F,h=>by
  simp only[b0];rw[h (i,p) (by simp)];exact xS λx U=>h x (by simp[U])
theorem xO{L:Nat->Bool}{s:Nat}:∀{rs:kS}{F:Fr},(∀x∈rs,dp x.2 s=true->L x.1=false)->get (b0 L rs F) s=get F s
 |[],_,_=>rfl
 |(i,p)::rs,F,h=>by
  simp only[b0];rw[xO λx U=>h x (by simp[U])]
  split
  .rename_i cq;cases af:dp p s with
   |false=>exact p3 af
   |true=>rw[h (i,p) (by simp) af]at cq;cases cq
  .rfl
theorem FO{L:Nat->Bool}{s:Nat}:∀{rs:kS}{F aD:Fr},get F s=get aD s->(∀x∈rs,dp x.2 s=true->L x.1=true)->get (b0 L rs F) s=get (b0 (λ_=>true) rs aD) s
 |[],_,_,h,_=>h
 |(i,p)::rs,F,aD,h,cq=>by
  simp only[b0,if_true];refine FO ?_ λx U=>cq x (by simp[U]);cases af:dp p s with
  |false=>
   rw[p3 af]
   split
   .rw [p3 af];exact h
   .exact h
  |true=>rw[cq (i,p) (by simp) af,if_pos rfl];exact Qd af
theorem F7{L:Nat->Bool}:∀{rs:kS}{F:Fr},(∀x∈rs,∀y∈x.2,eH F y.1=true)->eI (b0 L rs F)=eI F
 |[],_,_=>rfl
 |(i,p)::rs,F,h=>by
  simp only[b0]
  split
  .rw [F7 λx U y aw=>zH (h x (by simp[U]) y aw),Cu (h (i,p) (by simp))]
  .exact F7 λx U=>h x (by simp[U])
theorem Kg{L:Nat->Bool}{p:iz}:∀{rs:kS}{F:Fr},(∀x∈rs,L x.1=true->∀y∈x.2,dp p y.1=false)->(∀x∈rs,∀y∈x.2,eH F y.1=true)->(∀y∈p,eH F y.1=true)->b0 L rs (eB p F)=eB p (b0 L rs F)
 |[],_,_,_,_=>rfl
 |(i,q)::rs,F,I,aa,aB=>by
  simp only[b0]
  split
  .rename_i cq;rw[RQ (I (i,q) (by simp) cq) (aa (i,q) (by simp)) aB];exact Kg (λx U=>I x (by simp[U])) (λx U y aw=>zH (aa x (by simp[U]) y aw)) λy aw=>zH (aB y aw)
  .exact Kg (λx U=>I x (by simp[U])) (λx U=>aa x (by simp[U])) aB
theorem ud{p:iz}{s:Nat}:dp p s=true↔∃y∈p,y.1=s:=by
 unfold dp;simp only[hQ,beq_iff_eq]
theorem K0{L:Nat->Bool}{R:Nat->Nat->Prop}(cQ:∀a b,R a b->L b=true->L a=true):∀{rs:kS}{F:Fr},Mx F rs->rs.Pairwise (λx y=>∀s,dp x.2 s=true->dp y.2 s=true->R x.1 y.1)->∀{i:Nat}{p:iz},(i,p)∈rs->L i=false->b0 (λk=>L k || k==i) rs F=eB p (b0 L rs F)
 |[],_,_,_,_,_,h,_=>by cases h
 |(j,q)::rs,F,cm,IA,i,p,hm,cq=>by
  rw[hq]at IA;have Wy:∀x∈rs,x.1≠j:=λx U he=>by
   have:=cm.idx;simp only[cD,mS,cT,not_exists,not_and]at this;exact this.1 x U he
  have WB:∀aD,(∀t,eH F t=true->eH aD t=true)->Mx aD rs:=λaD e2=>⟨λx U y aw=>e2 _ (cm.key x (by simp[U]) y aw),by have:=cm.idx;simp only[cD,mS]at this;exact this.2⟩
  simp only[b0];rcases cc.1 hm with hm|hm
  .simp only[ba]at hm;obtain⟨rfl,rfl⟩:=hm;simp only[cq,beq_self_eq_true,Bool.or_true,if_true,aQ,if_false];rw[xS (L':=L) λx U=>by
    have:(x.1==i)=false:=by simpa using Wy x U
    rw[this,tQ]]
   refine Kg (λx U H3 y aw=>?_) (λx U=>cm.key x (by simp[U])) (cm.key (i,p) (by simp));cases af:dp p y.1 with
   |false=>rfl
   |true=>
    have:=cQ _ _ (IA.1 x U y.1 af (ud.2 ⟨y,aw,rfl⟩)) H3;simp only at this;rw[cq]at this;cases this
  .have iT:(j==i)=false:=by have:=Wy _ hm;simpa using Ne.symm this
   simp only[iT,tQ]
   split
   .exact K0 cQ (WB _ λt al=>zH al) IA.2 hm cq
   .exact K0 cQ (WB _ λt al=>al) IA.2 hm cq
theorem z1{k:Nat×Path}{b:Bool}{s:Nat}{ps:Path}(h:(Nat.blt ps.length k.2.length || !h8 k.1 k.2 b s ps)=true):(!h8 k.1 k.2 b s ps)=true:=by
 have pl:∀{q p:Path},pre q p=true->q.length<=p.length:=by
  intro q
  induction q with
  |nil=>intro p _;exact Nat.zero_le _
  |cons x q aN=>
   intro p af;obtain⟨a,c⟩:=x;cases p with
   |nil=>cases af
   |cons y p=>
    obtain⟨cp,c'⟩:=y;simp only[pre,aA]at af;have:=aN af.2;simp only[List.length_cons];omega
 rw[bo]at h;rcases h with h|h
 .rw [Nat.blt_eq]at h;cases ah:h8 k.1 k.2 b s ps with
  |false=>rfl
  |true=>
   simp only[h8,aA]at ah;have:=pl ah.2;omega
 .exact h
theorem F_{ks:List (Nat×Path)}{k:Nat×Path}(aj:k∈ks){d:D}(h:pg ks d=true):dj (h8 k.1 k.2) d=d:=by
 cases d with
 |alias s ps=>
  simp only[pg,a6]at h;have:=z1 (h k aj);simp only[b3]at this;simp only[dj,this,aQ,if_false]
 |sub s ps a b=>
  simp only[pg,a6]at h;have:=z1 (h k aj);simp only[b3]at this;simp only[dj,this,aQ,if_false]
 |place s ps a b=>
  simp only[pg,a6]at h;have:=z1 (h k aj);simp only[b3]at this;simp only[dj,this,aQ,if_false]
 |_=>rfl
theorem zU{ks:List (Nat×Path)}{k:Nat×Path}(aj:k∈ks){d:D}(h:ql ks d=true):dN (h8 k.1 k.2) d=d:=by
 have l:∀{cs:List D},cs.all (pg ks)=true->cs.map (dj (h8 k.1 k.2))=cs:=λ{cs} ad=>by
  rw[a6]at ad;exact(vK λx U=>F_ aj (ad x U)).trans (List.map_id _)
 cases d with
 |agg cs=>simp only[dN,l h]
 |fn g cs=>simp only[dN,l h]
 |alias s ps=>exact F_ (d:=.alias s ps) aj h
 |sub s ps a b=>exact F_ (d:=.sub s ps a b) aj h
 |place s ps a b=>exact F_ (d:=.place s ps a b) aj h
 |_=>rfl
theorem Zp(dead:Bool->Nat->Path->Bool):dN dead D.undef=D.undef:=rfl
theorem Gg{dead:Bool->Nat->Path->Bool}:∀{F:Fr}(s:Nat),get (jM dead F) s=dN dead (get F s)
 |[],_=>rfl
 |(k,d)::r,s=>by
  have aN:=Gg (dead:=dead) (F:=r) s;unfold jM at aN⊢;simp only[cD,get]
  split
  .rfl
  .exact aN
theorem nC{F:Fr}{q:Nat}{ps:Path}(s:Nat):get (kill F q ps) s=dN (h8 q ps) (get F s):=Gg s
theorem CB{F:Fr}{q:Nat}{ps:Path}:eI (kill F q ps)=eI F:=by
 unfold kill jM eI;rw[List.map_map];rfl
end Go.aS
namespace Go.aS
open D
theorem RS{ks:List (Nat×Path)}{dead:Bool->Nat->Path->Bool}(aj:∀b s p,dead b s p=true->∃k∈ks,∀b,h8 k.1 k.2 b s p=true){d:D}(h:ql ks d=true):dN dead d=d:=by
 have one:∀{d:D},pg ks d=true->dj dead d=d:=λ{d} h=>by
  have no:∀{b s p},(∀k∈ks,(!h8 k.1 k.2 b s p)=true)->∀iA,dead iA s p=false:=λ{b s p} aU iA=>by
   cases ah:dead iA s p with
   |false=>rfl
   |true=>
    obtain⟨k,hC,jz⟩:=aj _ _ _ ah;have:=aU k hC;rw[jz]at this;cases this
  cases d with
  |alias s ps=>
   simp only[pg,a6]at h
   replace h:=λk aj=>z1 (h k aj)
   simp only[dj,no h,aQ,if_false]
  |sub s ps a b=>
   simp only[pg,a6]at h
   replace h:=λk aj=>z1 (h k aj)
   simp only[dj,no h,aQ,if_false]
  |place s ps a b=>
   simp only[pg,a6]at h
   replace h:=λk aj=>z1 (h k aj)
   simp only[dj,no h,aQ,if_false]
  |_=>rfl
 have l:∀{cs:List D},cs.all (pg ks)=true->cs.map (dj dead)=cs:=λ{cs} ad=>by
  rw[a6]at ad;exact(vK λx U=>one (ad x U)).trans (List.map_id _)
 cases d with
 |agg cs=>simp only[dN,l h]
 |fn g cs=>simp only[dN,l h]
 |alias s ps=>exact one (d:=.alias s ps) h
 |sub s ps a b=>exact one (d:=.sub s ps a b) h
 |place s ps a b=>exact one (d:=.place s ps a b) h
 |_=>rfl
theorem Ka{F:Fr}{dead:Bool->Nat->Path->Bool}:eI (jM dead F)=eI F:=by
 unfold jM eI;rw[List.map_map];rfl
theorem ZN{s i c k:Nat}{zn:List D}(an:zn.any node1=true):∀b bk p,rH s [] i c k b bk p=true->∃q∈x_ s i c k zn,∀b,h8 q.1 q.2 b bk p=true:=by
 intro b bk p h;simp only[rH,pre,Bool.and_true,vN,Ck,aA,beq_iff_eq]at h;obtain⟨rfl,h⟩:=h;cases p with
 |nil=>simp[HK]at h
 |cons x p=>
  obtain⟨kA,c'⟩:=x;simp only[HK,aA,beq_iff_eq,decide_eq_true_eq]at h;obtain⟨⟨rfl,I⟩,aa⟩:=h;refine⟨(bk,[(kA,c')]),?_,λ_=>by simp[h8,pre]⟩;unfold x_;rw[if_pos an,cT];exact⟨c'-c,fB.2 (by omega),by simp;omega⟩
theorem SO{G:Fr}{s i c k:Nat}{zn:List D}{d:D}(ah:∀dead,dN dead d=d)(aj:eH G s=true)(ao:(eI G).Nodup)(ae:∀q,q≠s->ql (x_ s i c k zn) (get G q)=true):(if zn.any node1=true then jM (rH s [] i c k) (cf G s d)else cf G s d)=cf G s d:=by
 split
 .rename_i an;refine CK Ka (by rw[Ka,nB aj];exact ao) λq=>?_;rw[Gg,hs]
  split
  .exact ah _
  .rename_i au;exact RS (ZN an) (ae q λh=>au h.symm)
 .rfl
theorem aau{E:Env}{f:Nat}{V:List Nat}{call:Nat->List D->Option (D×List D)}{F:Fr}{o:Oper}{r:(Nat×D)×List (Nat×Path)}(h:mo E F o=some r)(aj:eH F r.1.1=true)(ao:(eI F).Nodup)(ae:∀q,q≠r.1.1->ql r.2 (get F q)=true):cV E f V call F o=some (cf F r.1.1 r.1.2):=by
 unfold mo at h
 split at h
 .rename_i t x y au
  split at h
  .cases h
  .rename_i fq
   split at h
   .cases h
   .rename_i d aw
    split at h
    .rename_i s i c U
     split at h
     .rename_i es ak
      split at h
      .rename_i ct he
       split at h
       .rename_i ad;obtain⟨cF,ck,dG⟩:=ad;simp only[aE]at h;subst h;have a5:(own es).df i (ct.take c++d.cells++ct.drop (c+aY E.P t))=some (own (es.set i (ct.take c++d.cells++ct.drop (c+aY E.P t)))):=rfl;simp only[cV,au,cF,if_true,F2 aw,U,xF,gB,b6,ak,D.bw,D.elem,he,ck,dG,and_self,a5,setAt,D.cy,bL,fq,fin];rw[SO (λ_=>rfl) aj ao ae]
       .cases h
      .cases h
     .cases h
    .rename_i s U
     split at h
     .rename_i cs ak
      split at h
      .rename_i ad;obtain⟨cF,ck,dG⟩:=ad;simp only[aE]at h;subst h;have a5:(box cs).df 0 (d.cells++cs.drop (aY E.P t))=some (box (d.cells++cs.drop (aY E.P t))):=rfl;simp only[cV,au,cF,if_true,F2 aw,U,xF,gB,b6,ak,D.bw,D.elem,ck,Nat.zero_add,dG,and_self,mi,Ci,a5,setAt,D.cy,bL,Ck,fq,fin];rw[SO (λ_=>rfl) aj ao ae]
      .cases h
     .cases h
    .cases h
 .cases h
theorem ZA{E:Env}{A B:Fr}(h:dF A B){o:Oper}(ae:∀x∈o.op.operands.toList,Seen A x){r:(Nat×D)×List (Nat×Path)}(av:mo E A o=some r):mo E B o=some r:=by
 unfold mo at av⊢
 split at av
 .rename_i t x y au;have U:Seen A x:=ae x (by rw[au];simp[Op.operands]);have aw:Seen A y:=ae y (by rw[au];simp[Op.operands])
  try simp only
  split at av
  .cases av
  .rename_i fq
   split at av
   .cases av
   .rename_i d ak;simp only[J9 h aw ak,gQ h U]
    split at av
    .rename_i s i c zh
     try simp only
     split at av
     .rename_i es xd;have:get B s=own es:=by
       rcases h s with I|I
       .rw [xd]at I;cases I
       .rw [I,xd]
      simp only[this];exact av
     .cases av
    .rename_i s zh
     try simp only
     split at av
     .rename_i cs xd;have:get B s=box cs:=by
       rcases h s with I|I
       .rw [xd]at I;cases I
       .rw [I,xd]
      simp only[this];exact av
     .cases av
    .cases av
 .cases av
theorem dF.refl(A:Fr):dF A A:=λ_=>.inr rfl
theorem dF.trans{A B C:Fr}(h:dF A B)(k:dF B C):dF A C:=λs=>by
 rcases h s with h|h
 .exact .inl h
 .rcases k s with k|k
  .left;rw[<-h];exact k
  .right;rw[k,h]
theorem dF.eq{A B:Fr}(h:dF A B){s:Nat}(ae:get A s≠.undef):get B s=get A s:=by
 rcases h s with h|h
 .exact absurd (q9.1 h) ae
 .exact h
theorem dF.cf{A B:Fr}(h:dF A B)(s:Nat)(d:D):dF (cf A s d) (cf B s d):=λk=>by
 rw[hs,hs]
 split
 .exact .inr rfl
 .exact h k
theorem dF.kill{A B:Fr}(h:dF A B)(s:Nat)(ps:Path):dF (kill A s ps) (kill B s ps):=λk=>by
 rw[nC,nC];rcases h k with h|h
 .left;rw[q9.1 h];rfl
 .right;rw[h]
theorem dF.eB{A B:Fr}(h:dF A B)(p:iz):dF (eB p A) (eB p B):=λk=>by
 rw[vT,vT];cases oz p k with
 |some d=>exact .inr rfl
 |none=>exact h k
theorem acR{E:Env}{M G:Fr}(h:dF M G){t:Nat}{es es':List (List D)}{b1:Fr}(ak:get M t=own es')(al:c9 E M (.tmp t)=some (own es,b1)):
  b1=kill (cf M t D.undef) t []/\c9 E G (.tmp t)=some (own es,kill (cf G t D.undef) t []):=by
 have iS:get G t=own es':=by rw[h.eq (by rw[ak];intro aU;cases aU),ak]
 simp only[c9,ak,e9,aE,ba]at al;obtain⟨aT,a5⟩:=al;refine⟨a5.symm,?_⟩;simp only[c9,iS,e9,aT]
theorem aaw{E:Env}{M G:Fr}(h:dF M G){t s:Nat}{ps:Path}{es:List (List D)}{b1:Fr}(ak:get M t=alias s ps)(al:c9 E M (.tmp t)=some (own es,b1)):
  ∃eM,b1=kill (cf M s eM) s ps/\c9 E G (.tmp t)=some (own es,kill (cf G s eM) s ps)/\get M s≠.undef:=by
 have iS:get G t=alias s ps:=by rw[h.eq (by rw[ak];intro aU;cases aU),ak]
 simp only[c9,ak,e9,mh]at al;cases ad:b6 M s ps with
 |none=>simp[ad]at al
 |some c=>
  simp only[ad]at al;cases U:c.dC with
  |false=>
   simp only[U,aQ,if_false]at al;cases c<;>simp at al
  |true=>
   simp only[U,if_true]at al;have jK:get M s≠.undef:=λhu=>by
    unfold b6 at ad;rw[hu]at ad;cases ps with
    |nil=>simp only[D.bw,aE]at ad;subst ad;cases U
    |cons p ps=>obtain⟨i,o⟩:=p;simp[D.bw,D.elem]at ad
   have w7:=h.eq jK;have A2:b6 G s ps=some c:=by unfold b6 at ad⊢;rw[w7];exact ad
   cases c8:(get M s).cy ps .undef with
   |none=>simp[setAt,c8]at al
   |some eM=>
    simp only[setAt,c8,bL,aE,ba]at al;obtain⟨aT,a5⟩:=al;refine⟨eM,a5.symm,?_,jK⟩;simp only[c9,iS,e9,mh,A2,U,if_true,setAt,w7,c8,bL];rw[aT]
theorem acy{E:Env}{A B:Fr}(h:dF A B){t:Nat}(ae:get A t≠.undef){es:List (List D)}{JA:Fr}(ao:jO E A (.tmp t)=some (es,JA)):
  (JA=A/\jO E B (.tmp t)=some (es,B))∨(JA=kill (cf A t D.undef) t []/\jO E B (.tmp t)=some (es,kill (cf B t D.undef) t [])):=by
 have cg:=h.eq ae;have an:aZ E B (.tmp t)=aZ E A (.tmp t):=by simp only[aZ,cg]
 unfold jO at ao⊢;rw[an];cases au:aZ E A (.tmp t)with
 |none=>simp[au]at ao
 |some d=>
  simp only[au]at ao⊢;cases d with
  |lit v=>
   cases v with
   |string b=>
    simp only[aE,ba]at ao⊢;obtain⟨I,aa⟩:=ao;exact .inl ⟨aa.symm,by simpa using I⟩
   |_=>simp at ao
  |sl es'=>
   simp only[aE,ba]at ao⊢;obtain⟨I,aa⟩:=ao;exact .inl ⟨aa.symm,by simpa using I⟩
  |own es'=>
   simp only[aE,ba]at ao⊢;obtain⟨I,aa⟩:=ao;exact .inl ⟨aa.symm,by simpa using I⟩
  |alias s ps=>
   simp only at ao⊢;cases ak:b6 A s ps with
   |none=>simp[ak]at ao
   |some c=>
    simp only[ak]at ao;cases c with
    |sl es'=>
     rw[jb h ak (by simp)];simp only[aE,ba]at ao⊢;obtain⟨I,aa⟩:=ao;exact .inl ⟨aa.symm,by simpa using I⟩
    |own es'=>
     rw[jb h ak (by simp)];simp only at ao⊢;cases U:(es'.any λc=>c.any dC)with
     |true=>
      simp only[U,if_true,cg]at ao⊢;cases xd:get A t with
      |own uV=>
       simp only[xd,aE,ba]at ao;obtain⟨I,aa⟩:=ao;right;refine⟨aa.symm,?_⟩;simp only[I]
      |_=>simp[xd]at ao
     |false=>
      simp only[U,aQ,if_false,aE,ba]at ao⊢;obtain⟨I,aa⟩:=ao;exact .inl ⟨aa.symm,by simpa using I⟩
    |_=>simp at ao
  |sub s ps off len=>
   simp only at ao⊢;cases ak:gU A (sub s ps off len)with
   |none=>simp[ak]at ao
   |some es'=>
    rw[Cq h ak];simp only[ak]at ao⊢;cases U:(es'.any λc=>c.any dC)with
    |true=>simp[U]at ao
    |false=>
     simp only[U,aQ,if_false,aE,ba]at ao⊢;obtain⟨I,aa⟩:=ao;exact .inl ⟨aa.symm,by simpa using I⟩
  |_=>simp at ao
structure nM(M:Fr)(p:iz)(ks:List (Nat×Path))(o:Oper)(G:Fr):Prop where
 less:dF M G
 nodup:(eI G).Nodup
 safe:∀k,dp p k=false->ql ks (get G k)=true
 free:∀t,o.dst=some t->get G t=.undef∨(pf o=true/\get M t≠.undef)
 key:∀x∈p,eH G x.1=true
theorem nM.fr{M:Fr}{p:iz}{ks:List (Nat×Path)}{o:Oper}{G:Fr}(e:nM M p ks o G)(h:pf o=false)(t:Nat)(al:o.dst=some t):get G t=.undef:=by
 rcases e.free t al with I|⟨I,_⟩
 .exact I
 .rw [h]at I;cases I
theorem t_{z:List Nat×Nat×List (Nat×Path)}{aD:Fr}{k:Nat}:dp (fJ z aD) k=true↔k∈z.1∨(kK (get aD z.2.1)=true/\k=z.2.1):=by
 rw[ud];unfold fJ;simp only[cT,bB];constructor
 .rintro ⟨y,⟨k',h,rfl⟩,rfl⟩;rcases h with h|h
  .exact .inl h
  .split at h
   .rename_i hu;exact .inr ⟨hu,by simpa using h⟩
   .cases h
 .rintro (h|⟨hu,rfl⟩)
  .exact ⟨_,⟨k,.inl h,rfl⟩,rfl⟩
  .exact ⟨_,⟨z.2.1,.inr (by rw[if_pos hu];simp),rfl⟩,rfl⟩
theorem Sz{aD:Fr}:∀{l:List Nat}{k:Nat},k∈l->oz (l.map λk=>(k,get aD k)) k=some (get aD k)
 |[],_,h=>by cases h
 |a::l,k,h=>by
  simp only[cD,oz];by_cases aj:k∈l
  .rw [Sz aj]
  .have:a=k:=by
    rcases cc.1 h with h|h
    .exact h.symm
    .exact absurd h aj
   subst this;cases hl:oz (l.map λk=>(k,get aD k)) a with
   |none=>simp
   |some e=>
    exfalso;have:dp (l.map λk=>(k,get aD k)) a=false:=by
     cases aU:dp (l.map λk=>(k,get aD k)) a with
     |false=>rfl
     |true=>
      obtain⟨y,aw,he⟩:=ud.1 aU;obtain⟨b,ag,rfl⟩:=cT.1 aw;simp only at he;subst he;exact absurd ag aj
    rw[CC this]at hl;cases hl
theorem Tx{z:List Nat×Nat×List (Nat×Path)}{aD:Fr}{k:Nat}(h:dp (fJ z aD) k=true):oz (fJ z aD) k=some (get aD k):=by
 unfold fJ;refine Sz ?_;rw[bB];rcases t_.1 h with h|⟨hu,rfl⟩
 .exact .inl h
 .exact .inr (by rw[if_pos hu];simp)
theorem CZ{F:Fr}{t:Nat}{d:D}(h:get F t=.undef):fin F (some t) d=cf F t d:=by
 simp only[fin,put,h,D.quiet,if_true]
abbrev p7:=List (Nat×D×Path)
def hE:p7->Fr->Fr
 |[],A=>A
 |(s,eM,ps)::r,A=>hE r (kill (cf A s eM) s ps)
def Ar:p7->Nat->D->D
 |[],_,d=>d
 |(s,eM,ps)::r,k,d=>Ar r k (dN (h8 s ps) (if s=k then eM else d))
theorem z6:∀(l:p7)(A:Fr)(k:Nat),get (hE l A) k=Ar l k (get A k)
 |[],_,_=>rfl
 |(s,eM,ps)::r,A,k=>by rw[hE,z6 r,nC,hs];rfl
theorem Lm:∀(l m:p7)(A:Fr),hE (l++m) A=hE m (hE l A)
 |[],_,_=>rfl
 |(s,eM,ps)::r,m,A=>Lm r m _
theorem dF.hE:∀(l:p7){A B:Fr},dF A B->dF (hE l A) (hE l B)
 |[],_,_,h=>h
 |(s,eM,ps)::r,_,_,h=>dF.hE r ((h.cf s eM).kill s ps)
theorem F0:∀{l:p7}{k:Nat},(∀a∈l,a.1≠k)->Ar l k .undef=.undef
 |[],_,_=>rfl
 |(s,eM,ps)::r,k,h=>by
  rw[Ar,if_neg (h (s,eM,ps) (by simp)),Zp];exact F0 λa aC=>h a (by simp[aC])
theorem Rd{ks:List (Nat×Path)}:∀{l:p7}{k:Nat}{d:D},(∀a∈l,a.1≠k/\(a.1,a.2.2)∈ks)->ql ks d=true->Ar l k d=d
 |[],_,_,_,_=>rfl
 |(s,eM,ps)::r,k,d,h,ah=>by
  obtain⟨I,aa⟩:=h (s,eM,ps) (by simp);rw[Ar,if_neg I,zU aa ah];exact Rd (λa aC=>h a (by simp[aC])) ah
theorem RD:∀{l:p7}{A:Fr},(∀a∈l,eH A a.1=true)->eI (hE l A)=eI A
 |[],_,_=>rfl
 |(s,eM,ps)::r,A,h=>by
  have e:eI (kill (cf A s eM) s ps)=eI A:=by rw[CB,nB (h (s,eM,ps) (by simp))]
  rw[hE,RD (λa aC=>by rw[kI,e,<-kI];exact h a (by simp[aC])),e]
theorem aan{l:p7}{A:Fr}(h:∀a∈l,get A a.1≠.undef){k:Nat}(aj:get (hE l A) k≠.undef):get A k≠.undef:=λhu=>by
 rw[z6,hu,F0]at aj
 .exact aj rfl
 .intro a aC D_;exact h a aC (by rw[D_];exact hu)
theorem KY{M G:Fr}{l:p7}{t:Nat}{d:D}{z:List Nat×Nat×List (Nat×Path)}{aD:Fr}{o:Oper}
  (e2:aD=fin (hE l M) (some t) d) (aC:∀a∈l,get M a.1≠.undef/\dp (fJ z aD) a.1=true/\(a.1,a.2.2)∈z.2.2) (af:∀k,dp (fJ z aD) k=true->k=t∨get M k≠.undef) (al:dp (fJ z aD) t=true)
  (e:nM M (fJ z aD) z.2.2 o G) (ah:o.dst=some t) (rX:pf o=false):fin (hE l G) (some t) d=eB (fJ z aD) G:=by
 have uZ:=e.fr rX t ah;have yN:get M t=.undef:=by
  rcases e.less t with h|h
  .exact q9.1 h
  .rw [<-h];exact uZ
 have w9:∀a∈l,a.1≠t:=λa hm h=>(aC a hm).1 (by rw[h];exact yN);have W5:∀k,dp (fJ z aD) k=true->eH G k=true:=λk aj=>by
  obtain⟨y,aw,rfl⟩:=ud.1 aj;exact e.key y aw
 have W3:eI (hE l G)=eI G:=RD λa hm=>W5 _ (aC a hm).2.1;rw[CZ (by rw[z6,yN,F0 w9])]at e2;rw[CZ (by rw[z6,uZ,F0 w9])];have kt:eH (hE l G) t=true:=by rw[kI,W3,<-kI];exact W5 t al
 have keys:eI (cf (hE l G) t d)=eI G:=by rw[nB kt,W3]
 refine CK (by rw[keys,Cu e.key]) (by rw[keys];exact e.nodup) λk=>?_;rw[hs,z6,vT];cases aU:dp (fJ z aD) k with
 |true=>
  rw[Tx aU,cx,e2,hs,z6]
  split
  .rfl
  .rename_i f_;rcases af k aU with h|h
   .exact absurd h.symm f_
   .rw [e.less.eq h]
 |false=>
  rw[CC aU,jr,if_neg (λh=>by rw[h]at al;rw[aU]at al;cases al)];exact Rd (λa hm=>⟨λh=>(by have:=(aC a hm).2.1;rw[h,aU]at this;cases this),(aC a hm).2.2⟩) (e.safe k aU)
theorem aav{E:Env}{M G:Fr}(h:dF M G){x:Operand}{a:List Nat×List (Nat×Path)}(ae:Ay M x=some a){d:D}{b1:Fr}(al:c9 E M x=some (d,b1)):
  ∃l:p7,b1=hE l M/\c9 E G x=some (d,hE l G)/\(∀c∈l,get M c.1≠.undef/\c.1∈a.1/\(c.1,c.2.2)∈a.2)/\∀k∈a.1,get M k≠.undef:=by
 cases x with
 |const v=>
  simp only[Ay,aE]at ae;subst ae;simp only[c9]at al⊢
  split at al
  .rename_i ad;simp only[aE,ba]at al;obtain⟨rfl,rfl⟩:=al;exact⟨[],rfl,by rw[if_pos ad];rfl,by simp,by simp⟩
  .cases al
 |func g=>
  simp only[Ay,aE]at ae;subst ae;simp only[c9,aE,ba]at al;obtain⟨rfl,rfl⟩:=al;exact⟨[],rfl,rfl,by simp,by simp⟩
 |global g=>simp[c9]at al
 |tmp u=>
  simp only[Ay]at ae
  split at ae
  .rename_i es ak;simp only[aE]at ae;subst ae;have iS:get G u=own es:=(h.eq (by rw[ak];exact D.noConfusion)).trans ak;simp only[c9,ak,e9,aE,ba]at al;obtain⟨rfl,rfl⟩:=al;refine⟨[(u,.undef,[])],rfl,?_,by simp[ak],by simp[ak]⟩;simp only[c9,iS,e9,hE]
  .rename_i cs ak
   split at ae
   case isFalse=>cases ae
   rename_i ad;simp only[aA,b3]at ad;simp only[aE]at ae;subst ae;have iS:get G u=agg cs:=(h.eq (by rw[ak];exact D.noConfusion)).trans ak;simp only[c9,ak,e9,ad.1,ad.2,if_true,aQ,if_false,aE,ba]at al;obtain⟨rfl,rfl⟩:=al;refine⟨[(u,.undef,[])],rfl,?_,by simp[ak],by simp[ak]⟩;simp only[c9,iS,e9,ad.1,ad.2,if_true,aQ,if_false,hE]
  .rename_i s ps ak;simp only[aE]at ae;subst ae;have iS:get G u=alias s ps:=(h.eq (by rw[ak];exact D.noConfusion)).trans ak;simp only[c9,ak,e9,mh]at al;cases ad:b6 M s ps with
   |none=>simp[ad]at al
   |some c=>
    simp only[ad]at al;have VY:c≠.undef:=λaU=>by subst aU;simp[D.dC]at al
    have A2:b6 G s ps=some c:=jb h ad VY;have jK:get M s≠.undef:=λhu=>by
     unfold b6 at ad;rw[hu]at ad;cases ps with
     |nil=>simp only[D.bw,aE]at ad;exact VY ad.symm
     |cons p ps=>obtain⟨i,o⟩:=p;simp[D.bw,D.elem]at ad
    have WR:get M u≠.undef:=by rw[ak];exact D.noConfusion
    cases U:c.dC with
    |false=>
     simp only[U,aQ,if_false]at al;refine⟨[],?_,?_,by simp,by simp[jK,WR]⟩
     .cases c<;>simp_all [hE]
     .simp only[c9,iS,e9,mh,A2,U,aQ,if_false];cases c<;>simp_all [hE]
    |true=>
     simp only[U,if_true]at al;cases c8:(get M s).cy ps .undef with
     |none=>simp[setAt,c8]at al
     |some eM=>
      simp only[setAt,c8,bL,aE,ba]at al;obtain⟨rfl,rfl⟩:=al;refine⟨[(s,eM,ps)],rfl,?_,by simp[jK],by simp[jK,WR]⟩;simp only[c9,iS,e9,mh,A2,U,if_true,setAt,h.eq jK,c8,bL,hE]
  .rename_i v ak;simp only[aE]at ae;subst ae;have iS:get G u=lit v:=(h.eq (by rw[ak];exact D.noConfusion)).trans ak;simp only[c9,ak,e9,aE,ba]at al;obtain⟨rfl,rfl⟩:=al;refine⟨[],rfl,?_,by simp,by simp⟩;simp only[c9,iS,e9,hE]
  .rename_i v ak;simp only[aE]at ae;subst ae;have iS:get G u=sl v:=(h.eq (by rw[ak];exact D.noConfusion)).trans ak;simp only[c9,ak,e9,aE,ba]at al;obtain⟨rfl,rfl⟩:=al;refine⟨[],rfl,?_,by simp,by simp⟩;simp only[c9,iS,e9,hE]
  .rename_i v ak;simp only[aE]at ae;subst ae;have iS:get G u=ref v:=(h.eq (by rw[ak];exact D.noConfusion)).trans ak;simp only[c9,ak,e9,aE,ba]at al;obtain⟨rfl,rfl⟩:=al;refine⟨[],rfl,?_,by simp,by simp⟩;simp only[c9,iS,e9,hE]
  .cases ae
theorem Re{E:Env}:∀{ps:List (Nat×Operand)}{M G:Fr},dF M G->∀{a:List Nat×List (Nat×Path)},yd E M ps=some a->∀{az:List (Nat×D)}{b1:Fr},iL E M ps=some (az,b1) ->
  ∃l:p7,b1=hE l M/\iL E G ps=some (az,hE l G)/\(∀c∈l,get M c.1≠.undef/\c.1∈a.1/\(c.1,c.2.2)∈a.2)/\∀k∈a.1,get M k≠.undef
 |[],M,G,_,a,ae,az,b1,al=>by
  simp only[yd,aE]at ae;simp only[iL,aE,ba]at al;obtain⟨rfl,rfl⟩:=al;subst ae;exact⟨[],rfl,rfl,by simp,by simp⟩
 |(i,x)::r,M,G,h,a,ae,az,b1,al=>by
  simp only[yd]at ae;simp only[iL]at al;cases I:c9 E M x with
  |none=>simp[I]at al
  |some q=>
   obtain⟨d,M2⟩:=q;simp only[I]at ae al;cases aa:Ay M x with
   |none=>simp[aa]at ae
   |some b=>
    simp only[aa]at ae;cases aB:yd E M2 r with
    |none=>simp[aB]at ae
    |some iA=>
     simp only[aB,aE]at ae;subst ae;cases aW:iL E M2 r with
     |none=>simp[aW]at al
     |some q=>
      obtain⟨m9,nR⟩:=q;simp only[aW,aE,ba]at al;obtain⟨rfl,rfl⟩:=al;obtain⟨l,aT,a5,ez,eK⟩:=aav h aa I;subst aT;obtain⟨zl,c5,eo,h9,n2⟩:=Re (dF.hE l h) aB aW;have back:∀k,get (hE l M) k≠.undef->get M k≠.undef:=λk aj=>aan (λc ad=>(ez c ad).1) aj;refine⟨l++zl,by rw[c5,Lm],?_,?_,?_⟩
      .simp only[iL,a5,eo,Lm]
      .intro c ad;rcases bB.1 ad with ad|ad
       .obtain ⟨dk,ea,lD⟩:=ez c ad;exact⟨dk,dR _ ea,dR _ lD⟩
       .obtain ⟨dk,ea,lD⟩:=h9 c ad;exact⟨back _ dk,c_ _ ea,c_ _ lD⟩
      .intro k aj;rcases bB.1 aj with aj|aj
       .exact eK k aj
       .exact back k (n2 k aj)
theorem RT{E:Env}{M G:Fr}{o:Oper}{ps:List (Nat×Operand)}{z:List Nat×Nat×List (Nat×Path)}(aG:Aq E M ps o.dst=some z){aD:Fr}{K:List (Nat×D)->Option D}(an:(match iL E M ps with
   |some (az,aX)=>(K az).map (fin aX o.dst)
   |none=>none)=some aD) (e:nM M (fJ z aD) z.2.2 o G) (rX:pf o=false):
  (match iL E G ps with
   |some (az,aX)=>(K az).map (fin aX o.dst)
   |none=>none)=some (eB (fJ z aD) G):=by
 unfold Aq at aG;cases ae:yd E M ps with
 |none=>simp[ae]at aG
 |some b=>
  cases ah:o.dst with
  |none=>simp[ae,ah]at aG
  |some t=>
   simp only[ae,ah,aE]at aG;subst aG;cases al:iL E M ps with
   |none=>simp[al]at an
   |some q=>
    obtain⟨az,b1⟩:=q;simp only[al,gj,ah]at an;obtain⟨d,dA,e2⟩:=an;obtain⟨l,aT,a5,ez,eK⟩:=Re e.less ae al;subst aT;simp only[a5,dA,bL];have lA:∀k,k∈t::b.1->dp (fJ (t::b.1,t,b.2) aD) k=true:=λk aj=>t_.2 (.inl aj);refine congrArg some (KY e2.symm (λa aC=>⟨(ez a aC).1,lA _ (List.mem_cons_of_mem _ (ez a aC).2.1),(ez a aC).2.2⟩) (λk aj=>?_) (lA t (by simp)) e ah rX);rcases t_.1 aj with h|⟨_,h⟩
    .rcases cc.1 h with h|h
     .exact .inl h
     .exact .inr (eK k h)
    .exact .inl h
theorem ZJ{E:Env}{f:Nat}{V:List Nat}{call:Nat->List D->Option (D×List D)}{M G:Fr}{o:Oper}{t:Nat}{ps:Array (Nat×Operand)}{z:List Nat×Nat×List (Nat×Path)}{aD:Fr}(au:o.op=.build t ps)(aG:Aq E M ps.toList o.dst=some z)(an:cV E f V call M o=some aD)(e:nM M (fJ z aD) z.2.2 o G):cV E f V call G o=some (eB (fJ z aD) G):=by
 have eq:∀A,cV E f V call A o=match iL E A ps.toList with
   |some (az,aX)=>((match fC E.P t with
    |some z=>match E.P.underlying t with
     |some (.array _ e)=>if(E.P.info? e).isSome then(rL (λi=>some (i*aY E.P e,aY E.P e)) z.cells az).map agg else none
     |some (.struct fs)=>if fs.toList.all λf=>(E.P.info? f.type).isSome then(rL (λi=>(fs[i]?).map λfd=>(fd.offset,aY E.P fd.type)) z.cells az).map agg else none
     |_=>none
    |none=>none):Option D).map (fin aX o.dst)
   |none=>none:=λA=>by
  simp only[cV,au];cases I:fC E.P t with
  |none=>cases aa:iL E A ps.toList<;>rfl
  |some Jz=>
   cases aa:iL E A ps.toList with
   |none=>rfl
   |some q=>
    simp only;generalize E.P.underlying t=u;cases u with
    |none=>rfl
    |some tM=>
     cases tM with
     |array n el=>
      simp only
      split
      .rw [nA];rfl
      .rfl
     |struct fs=>
      simp only
      split
      .rw [nA];rfl
      .rfl
     |_=>rfl
 rw[eq]at an⊢;exact RT (K:=λaz=>_) aG an e (by simp[pf,au])
theorem Ze{E:Env}{f:Nat}{V:List Nat}{call:Nat->List D->Option (D×List D)}{M G:Fr}{o:Oper}{t n:Nat}{ps:Array (Nat×Operand)}{z:List Nat×Nat×List (Nat×Path)}{aD:Fr}(au:o.op=.buildSlice t n ps)(aG:Aq E M ps.toList o.dst=some z)(an:cV E f V call M o=some aD)(e:nM M (fJ z aD) z.2.2 o G):cV E f V call G o=some (eB (fJ z aD) G):=by
 have eq:∀A,cV E f V call A o=match iL E A ps.toList with
   |some (az,aX)=>((match eD E.P t with
    |none=>none
    |some e=>match fC E.P e with
     |some z=>if n*aY E.P e<=16777216/\z.cells.length=aY E.P e/\0<aY E.P e then(xE (aY E.P e) (List.replicate n z.cells) az).map own else none
     |none=>none):Option D).map (fin aX o.dst)
   |none=>none:=λA=>by
  simp only[cV,au];cases aa:iL E A ps.toList with
  |none=>
   cases aO:eD E.P t with
   |none=>rfl
   |some el=>cases I:fC E.P el<;>simp only[I]
  |some q=>
   obtain⟨az,aX⟩:=q;cases aO:eD E.P t with
   |none=>rfl
   |some el=>
    cases I:fC E.P el with
    |none=>simp only[I];rfl
    |some Jz=>
     simp only[I]
     split
     .rw [nA];rfl
     .rfl
 rw[eq]at an⊢;exact RT (K:=λaz=>_) aG an e (by simp[pf,au])
theorem Ks{z:List Nat×Nat×List (Nat×Path)}{aD G A:Fr}(key:∀x∈fJ z aD,eH G x.1=true)(ao:(eI G).Nodup)(aj:eI A=eI G)(ch:∀k,dp (fJ z aD) k=true->get A k=get aD k)(pJ:∀k,dp (fJ z aD) k=false->get A k=get G k):A=eB (fJ z aD) G:=by
 refine CK (by rw[aj,Cu key]) (by rw[aj];exact ao) λk=>?_;rw[vT];cases aU:dp (fJ z aD) k with
 |true=>rw[Tx aU,cx];exact ch k aU
 |false=>rw[CC aU,jr];exact pJ k aU
theorem Ae{F:Fr}{t:Nat}{d:D}(k:Nat):get (put F t d) k=if(get F t).quiet=true then(if t=k then d else get F k)else dN (h8 t []) (if t=k then d else get F k):=by
 unfold put
 split
 .rw [hs]
 .rw [nC,hs]
theorem St{F:Fr}{t:Nat}{d:D}(h:eH F t=true):eI (put F t d)=eI F:=by
 unfold put
 split
 .exact nB h
 .rw [CB,nB h]
theorem ac3{M:Fr}{s:Nat}{ps:Path}{es:List (List D)}(ad:b6 M s ps=some (own es)):get M s≠.undef:=λhu=>by
 unfold b6 at ad;rw[hu]at ad;cases ps with
 |nil=>simp only[D.bw,aE]at ad;cases ad
 |cons p ps=>obtain⟨i,o⟩:=p;simp[D.bw,D.elem]at ad
theorem aaH{E:Env}{f:Nat}{V:List Nat}{call:Nat->List D->Option (D×List D)}{M G:Fr}{o:Oper}{u t:Nat}{es:List (List D)}{aD:Fr}(au:o.op=.assign (.tmp u))(fq:o.dst=some t)(ak:get M u=own es)(an:cV E f V call M o=some aD)(e:nM M (fJ ([u,t],t,[(u,[]),(t,[])]) aD) [(u,[]),(t,[])] o G):cV E f V call G o=some (eB (fJ ([u,t],t,[(u,[]),(t,[])]) aD) G):=by
 have u0:get G u=own es:=(e.less.eq (by rw[ak];exact D.noConfusion)).trans ak;have uZ:get G t=get M t:=by
  rcases e.free t fq with h|⟨_,h⟩
  .rcases e.less t with I|I
   .rw [h,q9.1 I]
   .exact I
  .exact e.less.eq h
 have A6:∀k,k=u∨k=t->get G k=get M k:=λk aj=>by
  rcases aj with rfl|rfl
  .exact u0.trans ak.symm
  .exact uZ
 have lA:∀k,dp (fJ ([u,t],t,[(u,[]),(t,[])]) aD) k=true↔k=u∨k=t:=λk=>by
  rw[t_];simp only[cc,hc,or_false];constructor
  .rintro (h|⟨_,h⟩)
   .exact h
   .exact .inr h
  .exact .inl
 have xk:∀k,k=u∨k=t->eH G k=true:=λk aj=>by
  obtain⟨y,aw,aU⟩:=ud.1 ((lA k).2 aj);rw[<-aU];exact e.key y aw
 have key:∀{A A':Fr}{d:D},put A t d=aD->(∀k,k=u∨k=t->get A' k=get A k)->(∀k,k≠u->ql [(u,[]),(t,[])] (get G k)=true->get A' k=get G k)->eI A'=eI G->put A' t d=eB (fJ ([u,t],t,[(u,[]),(t,[])]) aD) G:=by
  intro A A' d e2 I aa aB;have iD:eH A' t=true:=by rw[kI,aB,<-kI];exact xk t (.inr rfl)
  refine Ks e.key e.nodup (by rw[St iD,aB]) (λk aj=>?_) λk aj=>?_
  .rw [<-e2,Ae,Ae,I t (.inr rfl),I k ((lA k).1 aj)]
  .have ao:¬(k=u∨k=t):=λh=>by rw[(lA k).2 h]at aj;cases aj
   have y9:=e.safe k aj;have c2:=aa k (λh=>ao (.inl h)) y9;have f_:¬t=k:=λh=>ao (.inr h.symm);rw[Ae];simp only[if_neg f_,c2]
   split
   .rfl
   .exact zU (k:=(t,[])) (by simp) y9
 simp only[cV,au,rD,ak,fq]at an;simp only[cV,au,rD,u0,fq]
 split at an
 .rename_i th;rw[if_pos th];simp only[aE,fin]at an⊢;exact key (A:=M) (A':=G) an A6 (λ_ _ _=>rfl) rfl
 .rename_i th;rw[if_neg th];simp only[c9,ak,e9,bL,aE,fin]at an;simp only[c9,u0,e9,bL,fin];refine congrArg some (key an (λk aj=>?_) (λk aj ae=>?_) ?_)
  .rw [nC,nC,hs,hs,A6 k aj]
  .rw [nC,hs,if_neg (λh=>aj h.symm)];exact zU (k:=(u,[])) (by simp) ae
  .rw [CB,nB (xk u (.inl rfl))]
theorem abT{E:Env}{f:Nat}{V:List Nat}{call:Nat->List D->Option (D×List D)}{M G:Fr}{o:Oper}{x:Operand}{z:List Nat×Nat×List (Nat×Path)}{aD:Fr}(au:o.op=.assign x)(aG:K1 M x o.dst=some z)(an:cV E f V call M o=some aD)(e:nM M (fJ z aD) z.2.2 o G):cV E f V call G o=some (eB (fJ z aD) G):=by
 unfold K1 at aG
 split at aG
 case h_2=>cases aG
 rename_i u t fq
 split at aG
 case h_3=>cases aG
 case h_2=>
  rename_i es ak;simp only[aE]at aG;subst aG;exact aaH au fq ak an e
 rename_i s ps ak
 split at aG
 case h_2=>cases aG
 rename_i es ad;simp only[aE]at aG;subst aG;have H4:=ac3 ad;have w7:=e.less.eq H4;have u0:get G u=alias s ps:=(e.less.eq (by rw[ak];exact D.noConfusion)).trans ak;have uZ:get G t=get M t:=by
  rcases e.free t fq with h|⟨_,h⟩
  .rcases e.less t with I|I
   .rw [h,q9.1 I]
   .exact I
  .exact e.less.eq h
 have A2:b6 G s ps=some (own es):=by unfold b6 at ad⊢;rw[w7];exact ad
 have A6:∀k,k=s∨k=u∨k=t->get G k=get M k:=λk aj=>by
  rcases aj with rfl|rfl|rfl
  .exact w7
  .exact u0.trans ak.symm
  .exact uZ
 have lA:∀k,dp (fJ ([s,u,t],t,[(s,ps),(t,[])]) aD) k=true↔k=s∨k=u∨k=t:=λk=>by
  rw[t_];simp only[cc,hc,or_false];constructor
  .rintro (h|⟨_,h⟩)
   .exact h
   .exact .inr (.inr h)
  .exact .inl
 have xk:∀k,k=s∨k=u∨k=t->eH G k=true:=λk aj=>by
  obtain⟨y,aw,aU⟩:=ud.1 ((lA k).2 aj);rw[<-aU];exact e.key y aw
 have key:∀{A A':Fr}{d:D},put A t d=aD->(∀k,k=s∨k=u∨k=t->get A' k=get A k)->(∀k,k≠s->ql [(s,ps),(t,[])] (get G k)=true->get A' k=get G k)->eI A'=eI G->put A' t d=eB (fJ ([s,u,t],t,[(s,ps),(t,[])]) aD) G:=by
  intro A A' d e2 I aa aB;have iD:eH A' t=true:=by rw[kI,aB,<-kI];exact xk t (.inr (.inr rfl))
  refine Ks e.key e.nodup (by rw[St iD,aB]) (λk aj=>?_) λk aj=>?_
  .rw [<-e2,Ae,Ae,I t (.inr (.inr rfl)),I k ((lA k).1 aj)]
  .have ao:¬(k=s∨k=u∨k=t):=λh=>by rw[(lA k).2 h]at aj;cases aj
   have y9:=e.safe k aj;have c2:=aa k (λh=>ao (.inl h)) y9;have f_:¬t=k:=λh=>ao (.inr (.inr h.symm));rw[Ae];simp only[if_neg f_,c2]
   split
   .rfl
   .exact zU (k:=(t,[])) (by simp) y9
 simp only[cV,au,rD,ak,fq]at an;simp only[cV,au,rD,u0,fq]
 split at an
 .rename_i th;rw[if_pos th];simp only[aE,fin]at an⊢;exact key (A:=M) (A':=G) an A6 (λ_ _ _=>rfl) rfl
 .rename_i th;rw[if_neg th];cases c8:(get M s).cy ps .undef with
  |none=>simp[mh,ad,D.dC,setAt,c8]at an
  |some eM=>
   simp only[mh,ad,D.dC,if_true,setAt,c8,bL,aE,fin]at an;simp only[mh,A2,D.dC,if_true,setAt,w7,c8,bL,fin];refine congrArg some (key an (λk aj=>?_) (λk aj ae=>?_) ?_)
   .rw [nC,nC,hs,hs,A6 k aj]
   .rw [nC,hs,if_neg (λh=>aj h.symm)];exact zU (k:=(s,ps)) (by simp) ae
   .rw [CB,nB (xk s (.inl rfl))]
theorem ad2{E:Env}{M X:Fr}(h:dF M X){x:Operand}{v:Value}(an:aZ E M x=some (lit v)):aZ E X x=some (lit v):=by
 rw[gQ h,an];rintro t rfl;simp only[aZ,aE]at an;cases ak:get M t with
 |undef=>rw[ak]at an;cases an
 |_=>rfl
theorem QJ{E:Env}{g:Nat}{c:Operand}{M X:Fr}(h:dF M X):∀{xs:List Operand}{i:Nat},GU E g M i xs=true ->
  kE E g i X (xs.map Arg.gK)=some (xs.map λ_=>none,X)/\hk E g X c i (xs.map Arg.gK)=some none/\(∀bN l,gu E g X bN c l i (xs.map Arg.gK) (xs.map λ_=>none)=some (xs.map λx=>(aZ E M x).getD .undef))/\lp X (iu E g X c i (xs.map Arg.gK))=some X
 |[],i,_=>⟨rfl,rfl,λ_ _=>rfl,rfl⟩
 |x::r,i,hr=>by
  simp only[GU,aA]at hr;obtain⟨⟨hm,hl⟩,hr⟩:=hr;have hm:E.mode g i=.snap:=by simpa using hm
  obtain⟨I,aa,aB,aW⟩:=QJ (c:=c) h hr
  split at hl
  case h_2=>cases hl
  rename_i v av;have lr:=ad2 h av;refine⟨?_,?_,λbN l=>?_,?_⟩
  .simp only[cD,kE,hm,I]
  .simp only[cD,hk,hm,aa]
  .simp only[cD,gu,hm,q2,j4,lr,gC,eV,fu,D.freeze,aB,av,cx]
  .simp only[cD,iu,hm,j4,lr,cx,lp,uW,mC,aW]
theorem Yr{E:Env}{f:Nat}{V:List Nat}{call:Nat->List D->Option (D×List D)}{M G:Fr}{o:Oper}{c:Call}{g:Nat}{z:List Nat×Nat×List (Nat×Path)}{aD:Fr}(au:o.op=.call c)(db:c.callee=.value (.func g))(aG:Gc E M g c.args.toList o.dst=some z)(an:cV E f V call M o=some aD)(e:nM M (fJ z aD) z.2.2 o G):cV E f V call G o=some (eB (fJ z aD) G):=by
 have rX:pf o=false:=by simp[pf,au]
 unfold Gc at aG
 split at aG
 case h_2=>cases aG
 rename_i u rest t iC fq
 split at aG
 case h_2=>cases aG
 rename_i s ak
 split at aG
 case isFalse=>cases aG
 rename_i ad;simp only[aA]at ad;obtain⟨⟨tl,hex⟩,tn⟩:=ad;have tl:E.mode g 0=.eF:=by simpa using tl
 simp only[aE]at aG;subst aG;have H4:get M s≠.undef:=λh=>by rw[h]at hex;cases hex
 have w7:=e.less.eq H4;have u0:get G u=alias s []:=(e.less.eq (by rw[ak];exact D.noConfusion)).trans ak;have uZ:=e.fr rX t fq;have yN:get M t=.undef:=by
  rcases e.less t with h|h
  .exact q9.1 h
  .rw [<-h];exact uZ
 have c8:s≠t:=λh=>by subst h;exact H4 yN
 have eq:∀X,dF M X->get X u=alias s []->get X s=get M s->kn E call X g (.func g) (gF c.args.toList 0)=match call g (get M s::rest.map λx=>(aZ E M x).getD .undef)with
   |none=>none
   |some (r,outs)=>(lq X (some (s,[])) outs).map λjf=>(r,jf):=λX lr hu ae=>by
  obtain⟨I,aa,aB,aW⟩:=QJ (c:=.func g) lr tn;have aC:gF c.args.toList 0=Arg.gK (.tmp u)::rest.map Arg.gK:=by rw[iC];simp[gF]
  have rS:(get X s).dC=true:=by rw[ae];exact hex
  rw[aC];have ajI:aZ E X (.tmp u)=some (alias s []):=by simp only[aZ,hu,view,iY]
  have dk:kE E g 0 X (Arg.gK (.tmp u)::rest.map Arg.gK)=some (none::rest.map (λ_=>none),X):=by simp only[kE,tl,I]
  have ea:hk E g X (.func g) 0 (Arg.gK (.tmp u)::rest.map Arg.gK)=some (some (s,[])):=by simp only[hk,tl,j4,ajI,aa,r8]
  have lD:pI X (some (s,[]))=some (some (get M s),cf X s .undef):=by simp only[pI,b6,D.bw,ae,hex,if_true,setAt,D.cy,bL]
  have BE:gu E g X (cf X s .undef) (.func g) (some (get M s)) 0 (Arg.gK (.tmp u)::rest.map Arg.gK) (none::rest.map (λ_=>none))=some (get M s::rest.map λx=>(aZ E M x).getD .undef):=by simp only[gu,tl,q2,aB]
  have BF:lp X (iu E g X (.func g) 0 (Arg.gK (.tmp u)::rest.map Arg.gK))=some X:=by simp only[iu,tl,lp,uW,mC,aW]
  unfold kn;simp only[dk,ea,lD,BE];cases call g (get M s::rest.map λx=>(aZ E M x).getD .undef)with
  |none=>rfl
  |some q=>simp only[BF,ite_self]
 have rK:∀X,cV E f V call X o=(kn E call X g (.func g) (gF c.args.toList 0)).bind λr=>(lS (E.eager f t) r.1).map (fin r.2 (some t)):=λX=>by
  simp only[cV,au,db,aZ,vN,fq,cx]
 rw[rK,eq M (dF.refl M) ak rfl]at an;rw[rK,eq G e.less u0 w7];cases cn:call g (get M s::rest.map λx=>(aZ E M x).getD .undef)with
 |none=>simp[cn]at an
 |some q=>
  obtain⟨r,outs⟩:=q;simp only[cn]at an⊢;cases outs with
  |nil=>simp[lq]at an
  |cons c' outs=>
   cases outs with
   |cons _ _=>simp[lq]at an
   |nil=>
    simp only[lq,setAt,D.cy,bL]at an⊢
    split at an
    case isFalse=>simp at an
    rename_i pH;rw[if_pos pH];simp only[bL,gC]at an⊢;cases hr:lS (E.eager f t) r with
    |none=>simp[hr]at an
    |some k7=>
     simp only[hr,bL,aE]at an⊢;have DZ:∀(X:Fr) k,get (np (cf X s c') s []) k=dN (j7 s []) (if s=k then c' else get X k):=λX k=>by
      unfold np;rw[Gg,hs]
     have lA:∀k,dp (fJ ([s,u,t],s,[(s,[])]) aD) k=true↔k=s∨k=u∨k=t:=λk=>by
      rw[t_];simp only[cc,hc,or_false];constructor
      .rintro (h|⟨_,h⟩)
       .exact h
       .exact .inl h
      .exact .inl
     have xk:∀k,k=s∨k=u∨k=t->eH G k=true:=λk aj=>by
      obtain⟨y,aw,aU⟩:=ud.1 ((lA k).2 aj);rw[<-aU];exact e.key y aw
     have W4:eI (np (cf G s c') s [])=eI G:=by
      unfold np;rw[Ka,nB (xk s (.inl rfl))]
     have ahq:get (np (cf M s c') s []) t=.undef:=by rw[DZ,if_neg c8,yN];rfl
     have ahp:get (np (cf G s c') s []) t=.undef:=by rw[DZ,if_neg c8,uZ];rfl
     rw[CZ ahq]at an;rw[CZ ahp];refine Ks e.key e.nodup (by rw[nB (by rw[kI,W4,<-kI];exact xk t (.inr (.inr rfl))),W4]) (λk aj=>?_) λk aj=>?_
     .rw [<-an,hs,hs,DZ,DZ]
      split
      .rfl
      .rename_i f_;rcases(lA k).1 aj with h|h|h
       .rw [if_pos h.symm,if_pos h.symm]
       .rw [h,u0,ak]
       .exact absurd h.symm f_
     .have ao:¬(k=s∨k=u∨k=t):=λh=>by rw[(lA k).2 h]at aj;cases aj
      rw[hs,if_neg (λh=>ao (.inr (.inr h.symm))),DZ,if_neg (λh=>ao (.inl h.symm))];refine RS (ks:=[(s,[])]) (λb bk p h=>⟨(s,[]),by simp,λ_=>?_⟩) (e.safe k aj);simp only[j7,aA]at h;simp only[h8,aA];exact h.1
theorem ZB{E:Env}{f:Nat}{V:List Nat}{call:Nat->List D->Option (D×List D)}{M G:Fr}{o:Oper}{r:iz×List (Nat×Path)}(h:sJ E M o=some r)(e:nM M r.1 r.2 o G):cV E f V call G o=some (eB r.1 G):=by
 unfold sJ at h
 split at h
 case h_2=>cases h
 rename_i t u w au
 split at h
 case h_1=>cases h
 rename_i fq
 split at h
 case h_2=>cases h
 rename_i es s c hw hu
 split at h
 case h_2=>cases h
 rename_i cs ae
 split at h
 case isFalse=>cases h
 rename_i ad;obtain⟨cF,ck,dG,fh⟩:=ad;simp only[aE]at h;subst h;have D0:get G w=own es:=(e.less.eq (by rw[hw];exact D.noConfusion)).trans hw;have Vw:get G u=place s [] 0 c:=(e.less.eq (by rw[hu];exact D.noConfusion)).trans hu;have gs:get G s=box cs:=(e.less.eq (by rw[ae];exact D.noConfusion)).trans ae;have ak1:w≠u:=λh=>by rw[h,Vw]at D0;cases D0
 have O6:w≠s:=λh=>by rw[h,gs]at D0;cases D0
 have b9:∀k,get (kill (cf G w .undef) w []) k=dN (h8 w []) (if w=k then .undef else get G k):=λk=>by rw[nC,hs]
 have o5:get (kill (cf G w .undef) w []) u=place s [] 0 c:=by
  rw[b9,if_neg ak1,Vw];have:(s==w)=false:=by simpa using Ne.symm O6
  simp[dN,dj,h8,this]
 have s1:get (kill (cf G w .undef) w []) s=box cs:=by
  rw[b9,if_neg O6,gs];rfl
 have kw:eH G w=true:=e.key (w,.undef) (by simp);have ks:eH G s=true:=e.key (s,box (cs.take c++[own es]++cs.drop (c+1))) hP;have qV:eI (kill (cf G w .undef) w [])=eI G:=by rw[CB,nB kw]
 simp only[cV,au,cF,if_true,c9,D0,e9,aZ,o5,view,iY,xF,gB,b6,s1,D.bw,D.elem,D.cells,List.length_singleton,ck,dG,and_self,D.df,setAt,D.cy,bL,fh,aQ,if_false,fq,fin];refine congrArg some (CK ?_ ?_ λk=>?_)
 .rw [nB (by rw[kI,qV,<-kI];exact ks),qV,Cu e.key]
 .rw [nB (by rw[kI,qV,<-kI];exact ks),qV];exact e.nodup
 .simp only[eB];rw[hs,hs,hs,b9];by_cases I:s=k
  .subst I;rw[if_pos rfl,if_neg O6,if_pos rfl]
  .rw [if_neg I];by_cases aa:w=k
   .rw [if_pos aa,if_pos aa];rfl
   .rw [if_neg aa,if_neg aa,if_neg I];refine zU (k:=(w,[])) (by simp) (e.safe k ?_);simp[dp,I,aa]
theorem abS{E:Env}{f:Nat}{V:List Nat}{call:Nat->List D->Option (D×List D)}{M G:Fr}{o:Oper}{z:List Nat×Nat×List (Nat×Path)}{aD:Fr}(aG:mT E M o=some z)(an:cV E f V call M o=some aD)(ae:∀x∈o.op.operands.toList,Seen M x)(e:nM M (fJ z aD) z.2.2 o G):cV E f V call G o=some (eB (fJ z aD) G):=by
 unfold mT at aG
 split at aG
 case h_2=>rename_i aP;exact abT aP aG an e
 case h_3=>rename_i aP;exact ZJ aP aG an e
 case h_4=>rename_i aP;exact Ze aP aG an e
 case h_5=>cases aG
 rename_i c aP;have rX:pf o=false:=by simp[pf,aP]
 split at aG
 case h_2=>rename_i db;exact Yr aP db aG an e
 case h_3=>cases aG
 rename_i db
 split at aG
 case h_2=>cases aG
 rename_i t0 t1 t iC fq;have seen:∀u,Operand.tmp u∈c.args.toList->get M u≠.undef:=λu hu=>by
  have:=ae (.tmp u) (by
   rw[aP];simp[Op.operands,Call.operands]
   right;simpa using hu) u rfl
  intro h;rw[h]at this;cases this
 have Cc:=seen t0 (by rw[iC];simp);have s1:=seen t1 (by rw[iC];simp);simp only[cV,aP,db]at an⊢;rw[iC]at an⊢;cases e3:c.argTypes.toList with
 |nil=>rw[e3]at an;simp[nU]at an
 |cons ty r=>
  cases r with
  |nil=>rw[e3]at an;simp[nU]at an
  |cons u r=>
   cases r with
   |cons _ _=>rw[e3]at an;simp[nU]at an
   |nil=>
    rw[e3]at an;simp only[nU]at an⊢
    split at an
    case isFalse=>cases an
    rename_i oO;rw[if_pos oO];unfold rC at an⊢;cases iE:eD E.P ty with
    |none=>simp[iE]at an
    |some el=>
     simp only[iE]at an⊢;cases pQ:fC E.P el with
     |none=>simp[pQ]at an
     |some Jz=>
      simp only[pQ]at an⊢;cases f_:c9 E M (.tmp t0)with
      |none=>simp[f_]at an
      |some PU=>
       obtain⟨hj,b1⟩:=PU;simp only[f_]at an;cases hj with
       |own es=>
        simp only at an;cases gH:jO E b1 (.tmp t1)with
        |none=>simp[gH]at an
        |some E1=>
         obtain⟨new,M2⟩:=E1;simp only[gH]at an
         split at an
         case isFalse=>cases an
         rename_i Ia;simp only[aE]at an;rw[fq]at an⊢
         have fin_:∀(s:Nat)(ps:Path)(eM:D),b1=kill (cf M s eM) s ps->c9 E G (.tmp t0)=some (own es,kill (cf G s eM) s ps)->get M s≠.undef->get b1 t1≠.undef->((∀k,k∈z.1↔k=s∨k=t0∨k=t)/\z.2.1=t1/\(s,ps)∈z.2.2/\(t1,[])∈z.2.2)->(match c9 E G (.tmp t0)with
           |some (own es,aX)=>match jO E aX (.tmp t1)with
            |some (new,bN)=>if(es.length+new.length)*j5 E.P el<=140737488355328/\es.length+new.length<=9223372036854775807/\Jz.cells.length=aY E.P el/\0<aY E.P el/\(es.all λc=>c.length==aY E.P el)=true/\(new.all λc=>c.length==aY E.P el)=true then some (fin bN (some t) (own (es++new)))else none
            |none=>none
           |_=>none)=some (eB (fJ z aD) G):=by
          intro s ps eM I aa aB bO aW;rw[aa];simp only;subst I;obtain⟨ar,aI,z3,z4⟩:=aW;have aje:dF (kill (cf M s eM) s ps) (kill (cf G s eM) s ps):=(e.less.cf s eM).kill s ps;have lA:∀k,k=s∨k=t0∨k=t->dp (fJ z aD) k=true:=λk aj=>t_.2 (.inl ((ar k).2 aj));have WE:∀k,dp (fJ z aD) k=true->k=t∨get M k≠.undef:=λk aj=>by
           rcases t_.1 aj with h|⟨_,h⟩
           .rcases (ar k).1 h with rfl|rfl|rfl
            .exact .inr aB
            .exact .inr Cc
            .exact .inl rfl
           .rw [aI]at h;subst h;exact .inr s1
          rcases acy aje bO gH with⟨aT,a5⟩|⟨aT,a5⟩
          .rw [a5];simp only;rw[if_pos Ia];subst aT;exact congrArg some (KY (l:=[(s,eM,ps)]) an.symm (λa aC=>by simp only[aM]at aC;subst aC;exact⟨aB,lA _ (.inl rfl),z3⟩) WE (lA t (.inr (.inr rfl))) e fq rX)
          .rw [a5];simp only;rw[if_pos Ia];subst aT;have Vx:t1≠t:=λh=>by
            subst h;have:=e.less.eq s1;rw[e.fr rX t1 fq]at this;exact s1 this.symm
           have c8:s≠t:=λh=>by
            subst h;have:=e.less.eq aB;rw[e.fr rX s fq]at this;exact aB this.symm
           have yN:get M t=.undef:=by
            rcases e.less t with h|h
            .exact q9.1 h
            .rw [<-h];exact e.fr rX t fq
           have hu:kK (get aD t1)=true:=by
            rw[<-an,CZ (by rw[nC,hs,if_neg Vx,nC,hs,if_neg c8,yN];rfl),hs,if_neg (λh=>Vx h.symm),nC,hs,if_pos rfl];rfl
           exact congrArg some (KY (l:=[(s,eM,ps),(t1,.undef,[])]) an.symm (λa aC=>by
            simp only[cc,hc,or_false]at aC;rcases aC with rfl|rfl
            .exact ⟨aB,lA _ (.inl rfl),z3⟩
            .exact ⟨s1,t_.2 (.inr ⟨by rw[aI];exact hu,aI.symm⟩),z4⟩) WE (lA t (.inr (.inr rfl))) e fq rX)
         have On:∀(s:Nat)(ps:Path)(eM:D),b1=kill (cf M s eM) s ps->get b1 t1≠.undef:=λs ps eM I hu=>by
          unfold jO at gH;simp only[aZ,hu,view,iY]at gH;cases gH
         split at aG
         .rename_i es' ak;simp only[aE]at aG;subst aG;obtain⟨a2,bA⟩:=acR e.less ak f_;exact fin_ t0 [] .undef a2 bA Cc (On _ _ _ a2) ⟨λk=>by simp,rfl,by simp,by simp⟩
         .rename_i s ps ak;simp only[aE]at aG;subst aG;obtain⟨eM,a2,bA,a3⟩:=aaw e.less ak f_;exact fin_ s ps eM a2 bA a3 (On _ _ _ a2) ⟨λk=>by simp,rfl,by simp,by simp⟩
         .cases aG
       |_=>simp at an
theorem Tc{E:Env}{f:Nat}{V:List Nat}{call:Nat->List D->Option (D×List D)}{M G:Fr}{o:Oper}{r:iz×List (Nat×Path)}(he:j8 E f V call M o=some r)(ae:∀x∈o.op.operands.toList,Seen M x)(e:nM M r.1 r.2 o G):cV E f V call G o=some (eB r.1 G):=by
 unfold j8 at he
 split at he
 .rename_i Fw aO;simp only[aE]at he;subst he;refine aau (ZA e.less ae aO) (e.key _ (by simp)) e.nodup λq au=>e.safe q ?_;simp only[dp,gD,List.any_nil,tQ,beq_eq_false_iff_ne,ne_eq];exact λh=>au h.symm
 split at he
 .rename_i Fw aO;simp only[aE]at he;subst he;exact ZB aO e
 .split at he
  .rename_i z aD I aa;simp only[aE]at he;subst he;exact abS I aa ae e
  .cases he
end Go.aS
namespace Go.aS
open D
theorem ZL{d eM x:D}{i c':Nat}{c:Option Nat}{q:Path}(h:d.cy ((i,c')::q) x=some eM)(ad:∀n,c=some n->n≠c'):gS eM c=gS d c:=by
 simp only[D.cy]at h;cases he:d.elem i with
 |none=>simp[he]at h
 |some cs=>
  simp only[he]at h;cases I:cs[c']? with
  |none=>simp[I]at h
  |some e=>
   simp only[I]at h;cases aa:D.cy e q x with
   |none=>simp[aa]at h
   |some e'=>
    simp only[aa]at h;cases d with
    |box qz=>
     cases i with
     |zero=>
      simp only[D.elem,aE]at he;subst he;simp only[D.df,aE]at h;subst h;cases c with
      |none=>rfl
      |some n=>simp only[gS,List.getElem?_set_ne (Ne.symm (ad n rfl))]
     |succ i=>simp[D.elem]at he
    |own es=>
     simp only[D.df,aE]at h;subst h;cases c<;>rfl
    |agg qz=>
     cases i with
     |zero=>
      simp only[D.df,aE]at h;subst h;cases c<;>rfl
     |succ i=>simp[D.elem]at he
    |bt qz=>
     cases i with
     |zero=>
      simp only[D.df,aE]at h;subst h;cases c<;>rfl
     |succ i=>simp[D.elem]at he
    |_=>simp[D.elem]at he
theorem Zg{dead:Bool->Nat->Path->Bool}{d:D}{c:Option Nat}:gS (dN dead d) c=gS d c:=by
 cases d with
 |alias s ps=>simp only[dN,dj];split<;>cases c<;>rfl
 |sub s ps a b=>simp only[dN,dj];split<;>cases c<;>rfl
 |place s ps a b=>simp only[dN,dj];split<;>cases c<;>rfl
 |_=>cases c<;>rfl
theorem Cw{F:Fr}{q s:Nat}{ps:Path}{c:Option Nat}:gS (get (kill F q ps) s) c=gS (get F s) c:=by
 rw[nC,Zg]
theorem aaJ{F:Fr}{t s:Nat}{d:D}{c:Option Nat}(h:t≠s):gS (get (put F t d) s) c=gS (get F s) c:=by
 unfold put
 split
 .rw [hs,if_neg h]
 .rw [Cw,hs,if_neg h]
theorem R5{d x:D}{c:Nat}(h:gS d (some c)=some x):∃cs v,d=box cs/\cs[c]?=some (lit v)/\x=lit v:=by
 cases d with
 |box cs=>
  simp only[gS]at h
  split at h
  .rename_i v av;exact⟨cs,v,rfl,av,by simpa using h.symm⟩
  .cases h
 |_=>simp[gS]at h
theorem Ly{ks:List (Nat×Path)}{s q:Nat}{c:Option Nat}{ps:Path}(h:(ks.all λk=>!Nat.beq k.1 s || Dp c k.2)=true)(aj:(q,ps)∈ks):q≠s∨∃i c' r,ps=(i,c')::r/\∀n,c=some n->n≠c':=by
 have:=a6.1 h _ aj;simp only[bo,b3]at this;rcases this with I|I
 .left;rintro rfl;simp at I
 .right;cases ps with
  |nil=>cases c<;>cases I
  |cons x r=>
   obtain⟨i,c'⟩:=x;refine⟨i,c',r,rfl,?_⟩;rintro n rfl rfl;simp[Dp]at I
theorem aaI{E:Env}{f:Nat}{V:List Nat}{call:Nat->List D->Option (D×List D)}{G bS:Fr}{o:Oper}{z:List Nat×Nat×List (Nat×Path)}(ad:nI o=true)(aG:mT E G o=some z)(an:cV E f V call G o=some bS)(hf:∀t,o.dst=some t->get G t=.undef){s:Nat}{c:Option Nat}
  (aC:(z.2.2.all λk=>!Nat.beq k.1 s || Dp c k.2)=true):gS (get bS s) c=gS (get G s) c:=by
 unfold mT at aG
 split at aG
 case h_2=>rename_i au;simp[nI,au]at ad
 case h_3=>rename_i au;simp[nI,au]at ad
 case h_4=>rename_i au;simp[nI,au]at ad
 case h_5=>cases aG
 rename_i fF aP
 split at aG
 case h_2=>rename_i db;simp[nI,aP,db]at ad
 case h_3=>cases aG
 rename_i db
 split at aG
 case h_2=>cases aG
 rename_i t0 t1 t iC fq;simp only[cV,aP,db]at an;rw[iC]at an;cases e3:fF.argTypes.toList with
 |nil=>rw[e3]at an;simp[nU]at an
 |cons ty r=>
  cases r with
  |nil=>rw[e3]at an;simp[nU]at an
  |cons u r=>
   cases r with
   |cons _ _=>rw[e3]at an;simp[nU]at an
   |nil=>
    rw[e3]at an;simp only[nU]at an
    split at an
    case isFalse=>cases an
    unfold rC at an;cases iE:eD E.P ty with
    |none=>simp[iE]at an
    |some el=>
     simp only[iE]at an;cases pQ:fC E.P el with
     |none=>simp[pQ]at an
     |some Jz=>
      simp only[pQ]at an;cases f_:c9 E G (.tmp t0)with
      |none=>simp[f_]at an
      |some PU=>
       obtain⟨hj,b1⟩:=PU;simp only[f_]at an;cases hj with
       |own es=>
        simp only at an;cases gH:jO E b1 (.tmp t1)with
        |none=>simp[gH]at an
        |some E1=>
         obtain⟨new,M2⟩:=E1;simp only[gH]at an
         split at an
         case isFalse=>cases an
         simp only[aE]at an;rw[fq]at an;have I:gS (get b1 s) c=gS (get G s) c:=by
          split at aG
          .rename_i es' ak;simp only[aE]at aG;subst aG;simp only[c9,ak,e9,aE,ba]at f_;obtain⟨_,rfl⟩:=f_;rcases Ly aC (q:=t0) (ps:=[]) (by simp)with h|⟨_,_,_,h,_⟩
           .rw [Cw,hs,if_neg h]
           .cases h
          .rename_i bk ps ak;simp only[aE]at aG;subst aG;simp only[c9,ak,e9,mh]at f_;cases Eb:b6 G bk ps with
           |none=>simp[Eb]at f_
           |some e=>
            simp only[Eb]at f_;cases U:e.dC with
            |false=>
             simp only[U,aQ,if_false]at f_;cases e<;>simp at f_
            |true=>
             simp only[U,if_true]at f_;cases c8:(get G bk).cy ps .undef with
             |none=>simp[setAt,c8]at f_
             |some eM=>
              simp only[setAt,c8,bL,aE,ba]at f_;obtain⟨_,rfl⟩:=f_;rw[Cw,hs]
              split
              .rename_i ae;subst ae;rcases Ly aC (q:=bk) (ps:=ps) (by simp)with h|⟨i,c',r,rfl,h⟩
               .exact absurd rfl h
               .exact ZL c8 h
              .rfl
          .cases aG
         have aa:gS (get M2 s) c=gS (get b1 s) c:=by
          have cI:t1≠s:=by
           have:(t1,[])∈z.2.2:=by
            split at aG
            .simp only[aE]at aG;subst aG;simp
            .simp only[aE]at aG;subst aG;simp
            .cases aG
           rcases Ly aC this with h|⟨_,_,_,h,_⟩
           .exact h
           .cases h
          unfold jO at gH
          split at gH
          .simp only[aE,ba]at gH;rw[<-gH.2]
          .simp only[aE,ba]at gH;rw[<-gH.2]
          .split at gH
           .simp only[aE,ba]at gH;rw[<-gH.2]
           .split at gH
            .simp only at gH
             split at gH
             .simp only[aE,ba]at gH;rw[<-gH.2,Cw,hs,if_neg cI]
             .cases gH
            .simp only[aE,ba]at gH;rw[<-gH.2]
           .cases gH
          .split at gH
           .split at gH
            .cases gH
            .simp only[aE,ba]at gH;rw[<-gH.2]
           .cases gH
          .simp only[aE,ba]at gH;rw[<-gH.2]
          .cases gH
         rw[<-an];simp only[fin];by_cases WQ:t=s
         .subst WQ;rw[hf t fq];unfold put
          split
          .rw [H0];cases c<;>rfl
          .rw [Cw,H0];cases c<;>rfl
         .rw [aaJ WQ,aa,I]
       |_=>simp at an
theorem Yj{E:Env}{M G:Fr}(h:dF M G){o:Oper}(ad:nI o=true){z:List Nat×Nat×List (Nat×Path)}(aG:mT E M o=some z):mT E G o=some z:=by
 unfold mT at aG⊢
 split at aG
 case h_2=>rename_i au;simp[nI,au]at ad
 case h_3=>rename_i au;simp[nI,au]at ad
 case h_4=>rename_i au;simp[nI,au]at ad
 case h_5=>cases aG
 rename_i fF aP
 split at aG
 case h_2=>rename_i db;simp[nI,aP,db]at ad
 case h_3=>cases aG
 split at aG
 case h_2=>cases aG
 rename_i t0 t1 t iC fq
 split at aG
 .rename_i es ak;have:get G t0=own es:=(h.eq (by rw[ak];exact D.noConfusion)).trans ak;simp only[this];exact aG
 .rename_i s ps ak;have:get G t0=alias s ps:=(h.eq (by rw[ak];exact D.noConfusion)).trans ak;simp only[this];exact aG
 .cases aG
theorem Sb{E:Env}{f:Nat}{V:List Nat}{call:Nat->List D->Option (D×List D)}{M G:Fr}{o:Oper}{p:iz}{ks:List (Nat×Path)}(ad:nI o=true)(he:j8 E f V call M o=some (p,ks))(ae:∀x∈o.op.operands.toList,Seen M x)(e:nM M p ks o G){s:Nat}{c:Option Nat}
  (aC:(ks.all λk=>!Nat.beq k.1 s || Dp c k.2)=true):gS (get (eB p G) s) c=gS (get G s) c:=by
 have hr:=Tc he ae e;unfold j8 at he
 split at he
 .rename_i r c8;unfold mo at c8
  split at c8
  .rename_i au;simp[nI,au]at ad
  .cases c8
 split at he
 .rename_i r c8;unfold sJ at c8
  split at c8
  .rename_i au;simp[nI,au]at ad
  .cases c8
 .split at he
  .rename_i z aD I aa;simp only[aE,ba]at he;obtain⟨_,rfl⟩:=he;refine aaI ad (Yj e.less ad I) hr (e.fr ?_) aC;unfold nI at ad;unfold pf
   split at ad
   .rename_i au;simp[au]
   .cases ad
  .cases he
theorem aab{E:Env}{F G:Fr}{t s c:Nat}{x d:D}(e2:gS (get F s) (some c)=some x)(iS:gS (get G s) (some c)=some x)(al:aY E.P t=1)(h:oa E F t (place s [] 0 c)=some d):oa E G t (place s [] 0 c)=some d:=by
 obtain⟨cs,v,aT,a5,ez⟩:=R5 e2;obtain⟨b8,gN,ag0,Vd,ag5⟩:=R5 iS;have av:lit v=lit gN:=ez.symm.trans ag5;have l1:=(fx.1 a5).1;have l2:=(fx.1 Vd).1;have d1:(cs.drop c).take 1=[lit v]:=by
  rw[du l1];simp only[vL,mi];rw[(fx.1 a5).2]
 have d2:(b8.drop c).take 1=[lit gN]:=by
  rw[du l2];simp only[vL,mi];rw[(fx.1 Vd).2]
 unfold oa at h⊢
 split at h
 .cases h
 .rename_i hu;rw[if_neg hu];simp only[gB,b6,aT,D.bw,D.elem,al,d1]at h;simp only[gB,b6,ag0,D.bw,D.elem,al,d2,<-av];rw[if_pos (by omega)]at h⊢;exact h
inductive nQ(E:Env)(o:Oper)(s:Nat):Option Nat->Fr->Prop
 |load {t u c:Nat} {G:Fr}:o.op=.load t (.tmp u)->o.guard=none->get G u=place s [] 0 c->aY E.P t=1->u≠s->nQ E o s (some c) G
 |addr {t j:Nat} {G:Fr}:o.op=.fieldAddr t (.tmp s) j->o.guard=none->nQ E o s none G
 |yu {t u j:Nat} {G:Fr}:o.op=.fieldAddr t (.tmp u) j->o.guard=none->get G u=alias s []->u≠s->nQ E o s none G
theorem CJ{d x:D}(h:gS d none=some x):∃cs,d=box cs:=by
 cases d with
 |box cs=>exact⟨cs,rfl⟩
 |_=>cases h
theorem nQ.val{E:Env}{f:Nat}{call call2:Nat->List D->Option (D×List D)}{ops:Array Oper}{F G:Fr}{o:Oper}{s:Nat}{oX:Option Nat}{x d:D}(a:nQ E o s oX F)(b:nQ E o s oX G)(e2:gS (get F s) oX=some x)(iS:gS (get G s) oX=some x)(h:e5 E f call2 ops F o=some d):e5 E f call ops G o=some d:=by
 have place:∀{F:Fr}{t u c:Nat}{call:Nat->List D->Option (D×List D)},o.op=.load t (.tmp u)->o.guard=none->get F u=place s [] 0 c->e5 E f call ops F o=oa E F t (place s [] 0 c):=by
  intro F t u c call I aa aB;unfold e5 fV dJ;simp only[aa,I,aZ,aB,view,iY]
 have addr:∀{F:Fr}{t u j:Nat}{call:Nat->List D->Option (D×List D)},o.op=.fieldAddr t (.tmp u) j->o.guard=none->(∃cs,get F s=box cs)->(u=s∨get F u=alias s [])->e5 E f call ops F o=match n1 E.P t j with
   |some fd=>if 0<aY E.P fd.type then some (D.place s [] 0 (0+fd.offset))else none
   |none=>none:=by
  intro F t u j call I aa ⟨cs,aB⟩ aW;have an:aZ E F (.tmp u)=some (alias s []):=by
   rcases aW with rfl|aW
   .simp only[aZ,aB,view,iY]
   .simp only[aZ,aW,view,iY]
  have af:(aZ E F (.tmp u)).bind (gB F)=some (.loc s [] 0 0):=by simp only[an,gC,gB,b6,D.bw,aB]
  unfold e5 fV dJ;simp only[aa,I,af];cases n1 E.P t j<;>rfl
 cases a with
 |load I aa aB aW bO=>
  cases b with
  |load c5 eo h9 n2 HY=>
   rw[I]at c5;cases c5;rw[place I aa aB]at h;rw[place I aa h9];exact aab e2 iS aW h
 |addr I aa=>
  cases b with
  |addr c5 eo=>
   rw[I]at c5;cases c5;rw[addr I aa (CJ e2) (.inl rfl)]at h;rw[addr I aa (CJ iS) (.inl rfl)];exact h
  |yu c5 eo h9 n2=>
   rw[I]at c5;cases c5;exact absurd rfl n2
 |yu I aa aB aW=>
  cases b with
  |addr c5 eo=>
   rw[I]at c5;cases c5;exact absurd rfl aW
  |yu c5 eo h9 n2=>
   rw[I]at c5;cases c5;rw[addr I aa (CJ e2) (.inr aB)]at h;rw[addr I aa (CJ iS) (.inr h9)];exact h
theorem nQ.Xq{E:Env}{ops:Array Oper}{G:Fr}{o:Oper}{s:Nat}{oX:Option Nat}{x:D}(a:nQ E o s oX G)(iS:gS (get G s) oX=some x):jZ ops G o=true:=by
 unfold jZ iN z7;cases a with
 |load I aa aB aW bO=>simp[aa,I,Op.operands,aB,kK]
 |addr I aa=>
  obtain⟨cs,ad⟩:=CJ iS;simp[aa,I,Op.operands,ad,kK]
 |yu I aa aB aW=>simp[aa,I,Op.operands,aB,kK]
theorem nQ.at{E:Env}{F G:Fr}{o:Oper}{s:Nat}{oX:Option Nat}(a:nQ E o s oX F)(h:∀u,u∈iN o->u≠s->get G u=get F u):nQ E o s oX G:=by
 cases a with
 |load I aa aB aW bO=>exact .load I aa ((h _ (by simp[iN,I,Op.operands]) bO).trans aB) aW bO
 |addr I aa=>exact .addr I aa
 |yu I aa aB aW=>exact .yu I aa ((h _ (by simp[iN,I,Op.operands]) aW).trans aB) aW
theorem Z_{E:Env}{pE:List Nat}{G:Fr}{o:Oper}{s:Nat}{oX:Option Nat}(h:Av E pE G o=some (s,oX)):nQ E o s oX G/\(∃x,gS (get G s) oX=some x)/\∀u∈iN o,u≠s->pE.contains u=false/\get G u≠.undef:=by
 unfold Av at h
 split at h
 .rename_i bz u an ak
  split at h
  .cases h
  .rename_i aU
   split at h
   .rename_i bk c' u9
    split at h
    .rename_i ad;simp only[aE,ba]at h;obtain⟨rfl,rfl⟩:=h;simp only[aA]at ad;obtain⟨x,U⟩:=hF.1 ad.2;refine⟨.load an ak u9 (dn ad.1) (λhu=>?_),⟨x,U⟩,λv av _=>?_⟩
     .subst hu;rw[u9]at U;cases U
     .simp only[iN,an,Op.operands,ig,iZ,aM]at av;subst av;exact⟨by simpa using aU,by rw[u9];exact D.noConfusion⟩
    .cases h
   .cases h
 .rename_i bz u j an ak
  split at h
  .rename_i cs u9;simp only[aE,ba]at h;obtain⟨rfl,rfl⟩:=h;refine⟨.addr an ak,⟨_,by rw[u9];rfl⟩,λv av ao=>?_⟩;simp only[iN,an,Op.operands,ig,iZ,aM]at av;exact absurd av ao
  .rename_i bk u9
   split at h
   .cases h
   .rename_i aU
    split at h
    .rename_i ad;simp only[aE,ba]at h;obtain⟨rfl,rfl⟩:=h;obtain⟨x,U⟩:=hF.1 ad;refine⟨.yu an ak u9 (λhu=>?_),⟨x,U⟩,λv av _=>?_⟩
     .subst hu;rw[u9]at U;cases U
     .simp only[iN,an,Op.operands,ig,iZ,aM]at av;subst av;exact⟨by simpa using aU,by rw[u9];exact D.noConfusion⟩
    .cases h
  .cases h
 .cases h
theorem YW{u:Nat}{d:D}{s:Nat}(h:s∈kL (view u [] d)):s=u∨s∈kL d:=by
 cases d with
 |own es=>left;simpa[view,iY,kL]using h
 |box cs=>left;simpa[view,iY,kL]using h
 |map es=>left;simpa[view,iY,kL]using h
 |bld t e l=>left;simpa[view,iY,kL]using h
 |agg cs=>simp[view,kL]at h
 |bt cs=>simp[view,kL]at h
 |_=>right;simpa[view,iY]using h
theorem Lj{F G:Fr}{d:D}(h:∀s∈kL d,get G s=get F s):gB G d=gB F d:=by
 cases d with
 |alias s ps=>simp only[gB,b6,h s (by simp[kL])]
 |_=>rfl
theorem abd{E:Env}{F G:Fr}{t:Nat}{d:D}(h:∀s∈kL d,get G s=get F s):oa E G t d=oa E F t d:=by
 have hl:∀{s ps i o},gB F d=some (.loc s ps i o)->get G s=get F s:=λ{s ps i o} af=>by
  refine h s ?_;cases d with
  |alias bk pW=>
   simp only[gB]at af
   split at af
   .simp only[aE,Ptr.loc.injEq]at af;simp[kL,af.1]
   .cases af
   .cases af
  |place bk pW kA o'=>
   simp only[gB,aE,Ptr.loc.injEq]at af;simp[kL,af.1]
  |_=>simp[gB]at af
 unfold oa;rw[Lj h]
 split
 .rfl
 .split
  .rfl
  .rename_i s ps i o af;simp only[b6,hl af]
  .rfl
theorem Tn{E:Env}{F G:Fr}{t:Nat}{d ix:D}(h:∀s∈kL d,get G s=get F s):nm E G t d ix=nm E F t d ix:=by
 unfold nm;rw[Lj h];cases d with
 |alias s ps=>simp only[b6,h s (by simp[kL])]
 |sub s ps a b=>simp only[b6,h s (by simp[kL])]
 |_=>rfl
theorem aaj{E:Env}{f:Nat}{call:Nat->List D->Option (D×List D)}{ops:Array Oper}{F G:Fr}{o:Oper}(aj:Mc o=true)(ak:o.guard=none)(h:∀u∈iN o,get G u=get F u/\∀s∈kL (get F u),get G s=get F s):e5 E f call ops G o=e5 E f call ops F o:=by
 have Jv:∀u,u∈iN o->∀s∈kL (view u [] (get F u)),get G s=get F s:=λu hu s ae=>by
  rcases YW ae with rfl|ae
  .exact (h _ hu).1
  .exact (h u hu).2 s ae
 unfold Mc at aj
 split at aj
 .rename_i u aP;have hu:=(h u (by simp[iN,aP,Op.operands])).1;unfold e5 fV dJ;simp only[ak,aP,aZ,hu]
 .rename_i t u aP;have hm:u∈iN o:=by simp[iN,aP,Op.operands]
  unfold e5 fV dJ;simp only[ak,aP,aZ,(h u hm).1];exact abd (Jv u hm)
 .rename_i t u w aP;have hm:u∈iN o:=by simp[iN,aP,Op.operands]
  have hw:w∈iN o:=by simp[iN,aP,Op.operands]
  unfold e5 fV dJ;simp only[ak,aP,aZ,(h u hm).1,(h w hw).1];exact Tn (Jv u hm)
 .rename_i t u v aP;have hm:u∈iN o:=by simp[iN,aP,Op.operands]
  unfold e5 fV dJ;simp only[ak,aP,aZ,(h u hm).1]
  split
  .rename_i d i ah hi;simp only[aE]at ah;subst ah;exact Tn (Jv u hm)
  .rfl
 .rename_i t u j aP;have hm:u∈iN o:=by simp[iN,aP,Op.operands]
  unfold e5 fV dJ;simp only[ak,aP,aZ,(h u hm).1,gC,Lj (Jv u hm)]
 .cases aj
end Go.aS
namespace Go.aS
open D
def e7(listed:Array Bool)(i:Nat):Bool:=listed.getD i false
def Lt(ops:Array Oper)(listed:Array Bool):Prop:=∀i o,ops[i]?=some o->e7 listed i=true->∀e∈o.after,Region.binds .any e=true->e7 listed e.on=true
theorem Cr{ops:Array Oper}{listed:Array Bool}(ad:Lt ops listed):∀(n j i:Nat)(o:Oper),ops[i]?=some o->(∀e∈o.after,Region.binds .any e=true->e7 listed e.on=true)->hV ops n j i=true->e7 listed j=true
 |0,j,i,o,_,_,h=>by simp[hV]at h
 |n+1,j,i,o,an,af,h=>by
  simp only[hV,an,hQ]at h;obtain⟨wZ,aj,h⟩:=h;simp only[aA,bo,beq_iff_eq,decide_eq_true_eq]at h;obtain⟨⟨ag,_⟩,h⟩:=h;have ch:=af wZ (by simpa using aj) ag;rcases h with h|⟨_,h⟩
  .rw [<-h];exact ch
  .cases au:ops[wZ.on]? with
   |none=>cases n<;>simp[hV,au]at h
   |some o'=>exact Cr ad n j _ o' au (ad _ o' au ch) h
theorem KK{ops:Array Oper}{listed:Array Bool}(fO:listed.size=ops.size){i:Nat}:i∈Region.ready .any ops listed↔∃o,ops[i]?=some o/\e7 listed i=false/\∀e∈o.after,Region.binds .any e=true->e7 listed e.on=true:=by
 unfold Region.ready;simp only[hb,fB,aA,b3];constructor
 .rintro ⟨hi,I,aa⟩;rw[b5 hi]at aa;simp only[bL,cx,zD,bo,b3]at aa;refine⟨ops[i],b5 hi,?_,λe he ag=>?_⟩
  .have hl:i<listed.size:=by omega
   unfold e7;simp only[eb,b5 hl,cx]at I⊢;exact I
  .obtain ⟨k,aj,rfl⟩:=Array.getElem_of_mem he;rcases aa k aj with aB|aB
   .rw [aB]at ag;cases ag
   .exact aB
 .rintro ⟨o,an,I,aa⟩;have hi:=(cz.1 an).1;refine⟨hi,?_,?_⟩
  .have hl:i<listed.size:=by omega
   unfold e7 at I;simp only[eb,b5 hl,cx]at I⊢;exact I
  .rw [an];simp only[bL,cx,zD,bo,b3];intro k aj;by_cases ag:Region.binds .any o.after[k]=true
   .exact .inr (aa _ (Array.getElem_mem aj) ag)
   .exact .inl (by simpa using ag)
theorem wg{listed:Array Bool}{i:Nat}(hi:i<listed.size)(k:Nat):e7 (listed.setIfInBounds i true) k=(e7 listed k || k==i):=by
 unfold e7;simp only[eb,Array.getElem?_setIfInBounds];by_cases h:i=k
 .subst h;simp[hi]
 .have:(k==i)=false:=by simpa using Ne.symm h
  simp[h,this]
def left(ops:Array Oper)(listed:Array Bool):Nat:=((hR ops.size).filter λi=>!e7 listed i).length
theorem acp{ops:Array Oper}{listed:Array Bool}{i:Nat}(ae:listed.size=ops.size)(hi:i<ops.size)(ao:e7 listed i=false):left ops (listed.setIfInBounds i true)<left ops listed:=by
 unfold left;have:(λk=>!e7 (listed.setIfInBounds i true) k)=λk=>(!e7 listed k)&&!(k==i):=by
  funext k;rw[wg (by omega)];simp
 rw[this];rw[show((hR ops.size).filter λk=>(!e7 listed k)&&!(k==i))=((hR ops.size).filter λk=>!e7 listed k).filter λk=>!(k==i) by rw[List.filter_filter];congr 1;funext k;rw[Bool.and_comm]];refine List.length_filter_lt_length_iff_exists.2 ⟨i,?_,by simp⟩;rw[hb,fB];exact⟨hi,by simp[ao]⟩
def wz(ops:Array Oper)(L:Nat->Bool)(i:Nat):Prop:=(∀j k,hV ops ops.size j k=true->L k=true->L j=true)/\L i=false/\∀j,hV ops ops.size j i=true->L j=true
def pw(o:Oper)(d:D):iz:=o.dst.toList.map λt=>(t,d)
theorem SK{o:Oper}{d:D}{F:Fr}:eB (pw o d) F=lF F o.dst d:=by
 unfold pw;cases o.dst<;>rfl
theorem Rl{o:Oper}{d:D}:(pw o d).map (·.1)=yz o:=by
 unfold pw yz;cases o.dst<;>rfl
theorem v7{o:Oper}{d:D}{s:Nat}:dp (pw o d) s=true↔o.dst=some s:=by
 unfold pw dp;cases o.dst with
 |none=>simp
 |some t=>simp
theorem Cy{p:iz}{s:Nat}:dp p s=true↔s∈p.map (·.1):=by
 rw[ud,cT]
def af4(E:Env)(f:Nat)(call:Nat->List D->Option (D×List D))(ops:Array Oper)(F:Fr)(rs:kS)(x:Nat×iz):Prop:=
 ∃o d,ops[x.1]?=some o/\x.2=pw o d/\∀L,wz ops L x.1->e5 E f call ops (b0 L rs F) o=some d/\jZ ops (b0 L rs F) o=true/\∀t,o.dst=some t->get (b0 L rs F) t=.undef
def af3(E:Env)(f:Nat)(V:List Nat)(call:Nat->List D->Option (D×List D))(ops:Array Oper)(F:Fr)(rs:kS)(x:Nat×iz)(ks:List (Nat×Path)):Prop:=
 ∃o M,ops[x.1]?=some o/\jZ ops M o=true/\fV ops M o=some true/\j8 E f V call M o=some (x.2,ks)/\(∀t,o.dst=some t->dp x.2 t=true)/\∀L,wz ops L x.1->nM M x.2 ks o (b0 L rs F)
def af2(E:Env)(f:Nat)(V:List Nat)(call:Nat->List D->Option (D×List D))(ops:Array Oper)(F:Fr)(rs:kS)(x:Nat×iz):Option (List (Nat×Path))->Prop
 |none=>af4 E f call ops F rs x
 |some ks=>af3 E f V call ops F rs x ks
def wm(bd:g6)(i:Nat):Prop:=∀b∈bd,b.1=i->b.2.2=none
theorem Hk{O:Type}{R:O->O->Prop}:∀{l:List O},l.Pairwise R->∀{x y:O},x∈l->y∈l->x=y∨R x y∨R y x
 |[],_,_,_,h,_=>by cases h
 |a::l,h,x,y,U,aw=>by
  rw[hq]at h;rw[cc]at U aw;rcases U with U|U<;>rcases aw with aw|aw
  .exact .inl (U.trans aw.symm)
  .rw [U];exact .inr (.inl (h.1 y aw))
  .rw [aw];exact .inr (.inr (h.1 x U))
  .exact Hk h.2 U aw
structure lj(E:Env)(f:Nat)(V:List Nat)(call:Nat->List D->Option (D×List D))(ops:Array Oper)(F:Fr)(e:Nat)(rs:kS)(bd:g6):Prop where
 lt:∀x∈rs,x.1<e
 ok:Mx F rs
 ww:rs.Pairwise λx y=>∀s,dp x.2 s=true->dp y.2 s=true->hV ops ops.size x.1 y.1=true
 mA:∀b∈bd,∃x∈rs,x.1=b.1/\x.2.map (·.1)=b.2.1
 q7:∀x∈rs,∃b∈bd,x.1=b.1/\x.2.map (·.1)=b.2.1/\af2 E f V call ops F rs x b.2.2
 Pq:∀x∈rs,wm bd x.1->∀t,dp x.2 t=true->get F t=.undef/\∀y∈rs,wm bd y.1->dp y.2 t=true->y=x
 O5:rs.Pairwise λx y=>wm bd y.1->∀s,dp y.2 s=true->dp x.2 s=false
 HI:rs.Pairwise λx y=>x.1<y.1
variable{E:Env}{f:Nat}{V:List Nat}{call:Nat->List D->Option (D×List D)}{ops:Array Oper}{F:Fr}{e:Nat}{rs:kS}{bd:g6}
theorem aae{i s:Nat}:(fD ops bd i).contains s=true↔∃b∈bd,hV ops ops.size b.1 i=false/\s∈b.2.1:=by
 rw[q8];unfold fD;rw[List.mem_flatMap];constructor
 .rintro ⟨b,ag,h⟩;rw[hb]at ag;exact⟨b,ag.1,by simpa using ag.2,h⟩
 .rintro ⟨b,ag,I,aa⟩;exact⟨b,by rw[hb];exact⟨ag,by simp[I]⟩,aa⟩
theorem Am(ae:lj E f V call ops F e rs bd){L:Nat->Bool}{i:Nat}(hr:∀j,hV ops ops.size j i=true->L j=true):dF (gm (fD ops bd i) (b0 (λ_=>true) rs F)) (b0 L rs F):=λs=>by
 rw[xY];by_cases aU:(fD ops bd i).contains s=true
 .left;rw[if_pos aU];rfl
 .right;rw[if_neg aU];refine FO rfl λx U af=>?_;obtain⟨b,ag,I,aa,_⟩:=ae.q7 x U;refine hr _ ?_;rw[I];cases ad:hV ops ops.size b.1 i with
  |true=>rfl
  |false=>exact absurd (aae.2 ⟨b,ag,ad,by rw[<-aa];exact Cy.1 af⟩) aU
theorem FY{A B:Fr}(h:dF A B){o:Oper}(ae:jZ ops A o=true):jZ ops B o=true:=by
 unfold jZ at ae⊢;rw[a6]at ae⊢;intro t al;have:=ae t al;rcases h t with h|h
 .rw [h]at this;cases this
 .rw [h];exact this
theorem acv:∀{F:Fr}{s:Nat}{d:D}{x:Nat×D},x∈cf F s d->x∈F∨x=(s,d)
 |[],_,_,_,h=>by simp only[cf,aM]at h;exact .inr h
 |(k,y)::r,s,d,x,h=>by
  simp only[cf]at h
  split at h
  .rcases cc.1 h with h|h
   .exact .inr h
   .exact .inl (by simp[h])
  .rcases cc.1 h with h|h
   .exact .inl (by simp[h])
   .rcases acv h with h|h
    .exact .inl (by simp[h])
    .exact .inr h
theorem GC{ops:Array Oper}:∀{n j i:Nat},hV ops n j i=true->j<i
 |0,_,_,h=>by simp[hV]at h
 |n+1,j,i,h=>by
  simp only[hV]at h
  split at h
  .cases h
  .rw [hQ]at h;obtain⟨wZ,_,h⟩:=h;simp only[aA,bo,beq_iff_eq,decide_eq_true_eq]at h;obtain⟨⟨_,I⟩,h⟩:=h;rcases h with h|⟨h,_⟩<;>omega
theorem S0{L:Nat->Bool}:∀{rs:kS}{F:Fr},(∀y∈rs,L y.1=false)->b0 L rs F=F
 |[],_,_=>rfl
 |(k,d)::rs,F,aw=>by
  simp only[b0,aw (k,d) (by simp),aQ,if_false];exact S0 λy OF=>aw y (by simp[OF])
theorem R6(ae:lj E f V call ops F e rs bd){L:Nat->Bool}{j s:Nat}{c:Option Nat}(hr:∀k,hV ops ops.size k j=true->L k=true)(ag:bd.all (As ops j s c)=true):∀n,gS (get (b0 L (rs.take n) F) s) c=gS (get (b0 (λ_=>true) (rs.take n) F) s) c
 |0=>by simp[b0]
 |n+1=>by
  have aN:=R6 ae hr ag n;by_cases ao:n<rs.length
  case neg=>
   rw[List.take_of_length_le (by omega)]at aN⊢;exact aN
  rw[List.take_succ_eq_append_getElem ao,zJ,zJ];simp only[b0,if_true];have U:rs[n]∈rs:=List.getElem_mem ao;cases af:dp rs[n].2 s with
  |false=>
   rw[p3 af]
   split
   .rw [p3 af];exact aN
   .exact aN
  |true=>
   cases cq:L rs[n].1 with
   |true=>simp only[if_true];rw[Qd af]
   |false=>
    simp only[aQ,if_false];rw[aN];obtain⟨b,H7,aT,a5,hf⟩:=ae.q7 _ U;have aC:=a6.1 ag b H7;have iE:b.2.1.contains s=true:=by rw[<-a5,q8];exact Cy.1 af
    have ajV:hV ops ops.size b.1 j=false:=by
     cases ad:hV ops ops.size b.1 j with
     |false=>rfl
     |true=>rw[<-aT]at ad;rw[hr _ ad]at cq;cases cq
    simp only[As,ajV,iE,Bool.not_true,tR]at aC;cases aj:b.2.2 with
    |none=>rw[aj]at aC;cases aC
    |some ks=>
     rw[aj]at hf aC;obtain⟨o',M,f1,f2,f3,f4,f5,f6⟩:=hf;simp only[Hb,<-aT,f1,aA]at aC;have bU:∀y∈rs.take n,y.1<rs[n].1:=λy aw=>by
      have:=ae.HI;rw[<-ie n rs,cu]at this;refine this.2.2 y aw _ ?_;have aO:rs[n]∈rs[n]::rs.drop (n+1):=hP
      rwa [<-du ao]at aO
     have gz:∀y∈rs.drop n,rs[n].1<=y.1:=λy aw=>by
      rw[du ao]at aw;rcases cc.1 aw with rfl|aw
      .exact fW _
      .have:=ae.HI;rw[<-ie n rs,cu]at this;have:=this.2.1;rw[du ao,hq]at this;exact Nat.le_of_lt (this.1 y aw)
     have qJ:b0 (λk=>decide (k<rs[n].1)) rs F=b0 (λ_=>true) (rs.take n) F:=by
      have I:b0 (λk=>decide (k<rs[n].1)) rs F=b0 (λk=>decide (k<rs[n].1)) (rs.take n++rs.drop n) F:=by rw[ie]
      rw[I,zJ,S0 (λy aw=>by have:=gz y aw;simp;omega)];exact xS λy aw=>by have:=bU y aw;simpa using this
     have nZ:=f6 (λk=>decide (k<rs[n].1)) ⟨λa k I aa=>by
      have:=GC I;simp only[decide_eq_true_eq]at aa⊢
      omega,by simp,λa I=>by simpa using GC I⟩
     rw[qJ]at nZ;exact(Sb aC.1 f4 (FZ f2).1 nZ aC.2).symm
theorem agR(ae:lj E f V call ops F e rs bd){L:Nat->Bool}{j s:Nat}{c:Option Nat}(hr:∀k,hV ops ops.size k j=true->L k=true)(ag:bd.all (As ops j s c)=true):gS (get (b0 L rs F) s) c=gS (get (b0 (λ_=>true) rs F) s) c:=by
 have:=R6 ae hr ag rs.length
 rwa [List.take_length]at this
theorem Sx(ae:lj E f V call ops F e rs bd){L:Nat->Bool}{j:Nat}(hr:∀k,hV ops ops.size k j=true->L k=true){o:Oper}{s:Nat}{c:Option Nat}(aC:Av E (fD ops bd j) (b0 (λ_=>true) rs F) o=some (s,c))(ag:bd.all (As ops j s c)=true):
  ∃x,nQ E o s c (b0 L rs F)/\nQ E o s c (b0 (λ_=>true) rs F)/\gS (get (b0 L rs F) s) c=some x/\gS (get (b0 (λ_=>true) rs F) s) c=some x:=by
 obtain⟨I,⟨x,aa⟩,aB⟩:=Z_ aC;refine⟨x,I.at λu hu ao=>?_,I,by rw[agR ae hr ag];exact aa,aa⟩;obtain⟨c5,eo⟩:=aB u hu ao;have hm:=Am ae hr u;rw[xY,if_neg (by rw[c5];exact vM)]at hm;rcases hm with h|h
 .exact absurd (q9.1 h) eo
 .exact h
theorem lj.Xl(ae:lj E f V call ops F e rs bd){i:Nat}(hi:e<=i){o:Oper}(an:ops[i]?=some o){d:D}(V8:∀L,wz ops L i->e5 E f call ops (b0 L rs F) o=some d/\jZ ops (b0 L rs F) o=true)
  (aa:qa (b0 (λ_=>true) rs F) o=true) (aB:uo bd o=true) (aW:rl ops bd i d=true):
  lj E f V call ops F (i+1) (rs++[(i,pw o d)]) ((i,yz o,none)::bd)/\b0 (λ_=>true) (rs++[(i,pw o d)]) F=lF (b0 (λ_=>true) rs F) o.dst d:=by
 have kz:∀x∈rs,∀t,o.dst=some t->dp x.2 t=false:=λx U t al=>by
  obtain⟨b,ag,_,iE,_⟩:=ae.q7 x U;cases aU:dp x.2 t with
  |false=>rfl
  |true=>
   unfold uo at aB;rw[al]at aB;have:=a6.1 aB b ag;rw[<-iE]at this;have hm:=Cy.1 aU;simp only[b3,fR,decide_eq_false_iff_not]at this;exact absurd hm this
 have Ou:∀(L:Nat->Bool) t,o.dst=some t->get (b0 L rs F) t=.undef:=λL t al=>by
  have a:get (b0 L rs F) t=get F t:=xO λx U aU=>by rw[kz x U t al]at aU;cases aU
  have b:get (b0 (λ_=>true) rs F) t=get F t:=xO λx U aU=>by rw[kz x U t al]at aU;cases aU
  unfold qa at aa;rw[al]at aa;simp only[aA]at aa;rw[a,<-b];exact q9.1 aa.1
 have Wm:∀t,o.dst=some t->eH F t=true:=λt al=>by
  unfold qa at aa;rw[al]at aa;simp only[aA]at aa;have aa:eH (b0 (λ_=>true) rs F) t=true:=aa.2;rw[kI,F7 ae.ok.key,<-kI]at aa;exact aa
 have pA:∀L:Nat->Bool,b0 L (rs++[(i,pw o d)]) F=if L i then lF (b0 L rs F) o.dst d else b0 L rs F:=λL=>by
  rw[zJ];simp only[b0,SK]
 have bU:∀x∈rs,x.1≠i:=λx U h=>by have:=ae.lt x U;omega
 refine⟨⟨λx U=>?_,⟨λx U y aw=>?_,?_⟩,?_,λb ag=>?_,λx U=>?_,λx U ao t al=>?_,?_,?_⟩,by rw[pA];rfl⟩
 .rcases bB.1 U with U|U
  .have:=ae.lt x U;omega
  .simp only[aM]at U;subst U;simp
 .rcases bB.1 U with U|U
  .exact ae.ok.key x U y aw
  .simp only[aM]at U;subst U;exact Wm _ (v7.1 (ud.2 ⟨y,aw,rfl⟩))
 .rw [Cj,Ch];refine⟨ae.ok.idx,by simp,?_⟩;rintro a aC b ag rfl;simp only[cD,List.map_nil,aM]at ag;obtain⟨z,aG,rfl⟩:=cT.1 aC;exact bU z aG ag
 .rw [cu];refine⟨ae.ww,cA _ _,λx U y aw s a b=>?_⟩;simp only[aM]at aw;subst aw;rw[kz x U s (v7.1 b)]at a;cases a
 .rcases cc.1 ag with rfl|ag
  .exact ⟨_,c_ _ (aM.2 rfl),rfl,Rl⟩
  .obtain ⟨x,U,h⟩:=ae.mA b ag;exact⟨x,dR _ U,h⟩
 .rcases bB.1 U with U|U
  .obtain ⟨b,ag,aT,a5,hf⟩:=ae.q7 x U;refine⟨b,by simp[ag],aT,a5,?_⟩;have more:∀L:Nat->Bool,dF (b0 L rs F) (b0 L (rs++[(i,pw o d)]) F):=λL s=>by
    rw[pA]
    split
    .rw [CV]
     split
     .rename_i al;left;rw[Ou L s al];rfl
     .exact .inr rfl
    .exact .inr rfl
   cases aj:b.2.2 with
   |none=>
    rw[aj]at hf;obtain⟨o',bf,f1,f2,f3⟩:=hf;refine⟨o',bf,f1,f2,λL cq=>?_⟩;obtain⟨c5,eo,h9⟩:=f3 L cq;refine⟨zO (more L) eo c5,FY (more L) eo,λt al=>?_⟩;rw[pA]
    split
    .rw [CV]
     split
     .rename_i oR;have:=kz x U t oR;rw[f2,<-Bool.not_eq_true]at this;exact absurd (v7.2 al) this
     .exact h9 t al
    .exact h9 t al
   |some ks=>
    rw[aj]at hf;obtain⟨o',M,f1,f2,f3,f4,f5,f6⟩:=hf;refine⟨o',M,f1,f2,f3,f4,f5,λL cq=>?_⟩;have g:=f6 L cq;have y9:L i=true->ql ks d=true:=λqF=>by
     have:=a6.1 aW b ag;simp only[aj,bo]at this;rcases this with h|h
     .rw [<-aT]at h;have:=cq.1 _ _ h qF;rw[cq.2.1]at this;cases this
     .exact h
    refine⟨g.less.trans (more L),?_,λk th=>?_,λt al=>?_,λy aw=>?_⟩
    .rw [pA]
     split
     .cases ah:o.dst with
      |none=>exact g.nodup
      |some t=>
       simp only[lF];rw[nB (J7 (Wm t ah))];exact g.nodup
     .exact g.nodup
    .rw [pA]
     split
     .rename_i qF;rw[CV]
      split
      .exact y9 qF
      .exact g.safe k th
     .exact g.safe k th
    .rw [pA]
     split
     .rw [CV]
      split
      .rename_i oR;have:=kz x U t oR;rw[f5 t al]at this;cases this
      .exact g.free t al
     .exact g.free t al
    .rw [pA]
     split
     .cases ah:o.dst with
      |none=>exact g.key y aw
      |some t=>exact xQ _ _ _ _ (g.key y aw)
     .exact g.key y aw
  .simp only[aM]at U;subst U;refine⟨_,hP,rfl,Rl,o,d,an,rfl,λL cq=>?_⟩;have qF:L i=false:=cq.2.1;rw[pA,qF];simp only[aQ,if_false];exact⟨(V8 L cq).1,(V8 L cq).2,Ou L⟩
 .rcases bB.1 U with U|U
  .obtain ⟨a2,bA⟩:=ae.Pq x U (λb ag=>ao b (by simp[ag])) t al;refine⟨a2,λy aw fU nh=>?_⟩;rcases bB.1 aw with aw|aw
   .exact bA y aw (λb ag=>fU b (by simp[ag])) nh
   .simp only[aM]at aw;subst aw;rw[kz x U t (v7.1 nh)]at al;cases al
  .simp only[aM]at U;subst U;have oR:=v7.1 al;refine⟨?_,λy aw _ nh=>?_⟩
   .have:=Ou (λ_=>false) t oR
    rwa [xO λ_ _ _=>rfl]at this
   .rcases bB.1 aw with aw|aw
    .rw [kz y aw t oR]at nh;cases nh
    .simpa using aw
 .rw [cu];refine⟨ae.O5.imp λh aw=>h λb ag=>aw b (by simp[ag]),cA _ _,λx U y aw _ s akp=>?_⟩;simp only[aM]at aw;subst aw;exact kz x U s (v7.1 akp)
 .rw [cu];refine⟨ae.HI,cA _ _,λx U y aw=>?_⟩;simp only[aM]at aw;subst aw;have:=ae.lt x U;simp only;omega
theorem lj.read(ae:lj E f V call ops F e rs bd){i:Nat}(hi:e<=i){o:Oper}(an:ops[i]?=some o){d:D}(af:e5 E f call ops (gm (fD ops bd i) (b0 (λ_=>true) rs F)) o=some d)
  (I:jZ ops (gm (fD ops bd i) (b0 (λ_=>true) rs F)) o=true) (aa:qa (b0 (λ_=>true) rs F) o=true) (aB:uo bd o=true) (aW:rl ops bd i d=true):
  lj E f V call ops F (i+1) (rs++[(i,pw o d)]) ((i,yz o,none)::bd)/\b0 (λ_=>true) (rs++[(i,pw o d)]) F=lF (b0 (λ_=>true) rs F) o.dst d:=
 ae.Xl hi an (λL cq=>⟨zO (Am ae cq.2.2) I af,FY (Am ae cq.2.2) I⟩) aa aB aW
theorem RM:∀{l:List Nat},G6 l=true->l.Nodup
 |[],_=>List.nodup_nil
 |k::r,h=>by
  simp only[G6,aA,b3,fR,decide_eq_false_iff_not]at h;exact mS.2 ⟨h.1,RM h.2⟩
theorem aap{a b:D}(h:LW a b=true):a=b:=by
 unfold LW at h
 split at h
 .simp only[aA,beq_iff_eq]at h;rw[dn h.1,h.2]
 .simp only[aA,beq_iff_eq]at h;rw[dn h.1,h.2.1,dn h.2.2.1,dn h.2.2.2]
 .cases h
theorem adX{F:Fr}{k:Nat}:get F k=.undef∨(k,get F k)∈F:=by
 induction F with
 |nil=>exact .inl rfl
 |cons x r aN=>
  obtain⟨q,d⟩:=x;simp only[get]
  split
  .rename_i h;subst h;exact .inr (by simp)
  .rcases aN with h|h
   .exact .inl h
   .exact .inr (by simp[h])
theorem Ra{ks:List (Nat×Path)}:ql ks D.undef=true:=rfl
variable(hle:∀{o:Oper}{A:Fr}{d:D},e5 E f x7 ops A o=some d->e5 E f call ops A o=some d)
include hle
theorem lj.act(ae:lj E f V call ops F e rs bd){i:Nat}(hi:e<=i){o:Oper}(an:ops[i]?=some o){p:iz}{ks:List (Nat×Path)}(hw:fV ops (gm (fD ops bd i) (b0 (λ_=>true) rs F)) o=some true)
  (af:j8 E f V call (gm (fD ops bd i) (b0 (λ_=>true) rs F)) o=some (p,ks)) (cm:Hf E f ops bd i (b0 (λ_=>true) rs F) o p ks=true):
  lj E f V call ops F (i+1) (rs++[(i,p)]) ((i,p.map (·.1),some ks)::bd)/\b0 (λ_=>true) (rs++[(i,p)]) F=eB p (b0 (λ_=>true) rs F):=by
 unfold Hf at cm;simp only[aA]at cm;obtain⟨⟨⟨⟨⟨⟨cF,ck⟩,fh⟩,e0⟩,nV⟩,U9⟩,agO⟩:=cm;have bU:∀x∈rs,x.1≠i:=λx U h=>by have:=ae.lt x U;omega
 have NT:∀L:Nat->Bool,eI (b0 L rs F)=eI F:=λL=>F7 ae.ok.key;have Wn:∀x∈p,eH F x.1=true:=λx U=>by
  have h:eH (b0 (λ_=>true) rs F) x.1=true:=a6.1 nV x U;rw[kI,NT,<-kI]at h;exact h
 have pA:∀L:Nat->Bool,b0 L (rs++[(i,p)]) F=if L i then eB p (b0 L rs F)else b0 L rs F:=λL=>by
  rw[zJ];simp only[b0]
 have WL:∀b∈bd,hV ops ops.size b.1 i=true∨(b.2.2=none/\(∀t,t∈b.2.1->dp p t=false)/\(G1 ops bd (b0 (λ_=>true) rs F) p b.1 || (again E f ops bd (b0 (λ_=>true) rs F) p b || G0 E ops bd i (b0 (λ_=>true) rs F) p ks b.1))=true):=λb ag=>by
  have:=a6.1 agO b ag;simp only[aA,bo,kf]at this;rcases this with h|⟨I,aa,aB⟩
  .exact .inl h
  .refine .inr ⟨I,λt al=>?_,by rw[bo,bo];exact aB⟩;have aW:=a6.1 aa t al;simpa using aW
 have gI:∀(L:Nat->Bool) k,wz ops L i->get (b0 L rs F) k=.undef∨get (b0 L rs F) k=get (b0 (λ_=>true) rs F) k:=λL k cq=>by
  have U0:∀y∈rs,¬wm bd y.1->L y.1=true:=λy _ aw=>by
   simp only[wm,Classical.not_forall]at aw;obtain⟨b,ag,aT,a5⟩:=aw;rcases WL b ag with h|⟨h,_⟩
   .exact cq.2.2 _ (by rw[<-aT];exact h)
   .exact absurd h a5
  by_cases H6:∃a∈rs,dp a.2 k=true/\¬wm bd a.1
  .obtain ⟨a,aC,D_,lZ⟩:=H6;refine .inr (FO rfl λy aw qS=>?_);by_cases hyp:wm bd y.1
   .rcases Hk (ae.ww.and ae.O5) aw aC with rfl|⟨I,_⟩|⟨_,aa⟩
    .exact absurd hyp lZ
    .exact cq.1 _ _ (I k qS D_) (U0 a aC lZ)
    .rw [aa hyp k qS]at D_;cases D_
   .exact U0 y aw hyp
  .have Ob:∀y∈rs,dp y.2 k=true->wm bd y.1:=λy aw qS=>Classical.byContradiction λh=>H6 ⟨y,aw,qS,h⟩;by_cases hex:∃x∈rs,dp x.2 k=true
   .obtain ⟨x,U,EM⟩:=hex;obtain⟨a2,bA⟩:=ae.Pq x U (Ob x U EM) k EM;cases H3:L x.1 with
    |true=>exact .inr (FO rfl λy aw qS=>by rw[bA y aw (Ob y aw qS) qS];exact H3)
    |false=>exact .inl (by rw[xO λy aw qS=>by rw[bA y aw (Ob y aw qS) qS];exact H3];exact a2)
   .have hZ:∀y∈rs,dp y.2 k≠true:=λy aw h=>hex ⟨y,aw,h⟩;right;rw[xO λy aw h=>absurd h (hZ y aw),xO λy aw h=>absurd h (hZ y aw)]
 have aiE:∀(L:Nat->Bool),wz ops L i->∀t,o.dst=some t->get (b0 L rs F) t=.undef∨(pf o=true/\get (gm (fD ops bd i) (b0 (λ_=>true) rs F)) t≠.undef):=λL cq t al=>by
  rw[bo]at ck;rcases ck with ck|ck
  .rcases gI L t cq with h|h
   .exact .inl h
   .refine .inl ?_;rw[h];unfold qa at ck;rw[al]at ck;simp only[aA]at ck;exact q9.1 ck.1
  .unfold T4 at ck;rw[al]at ck;simp only[aA,b3]at ck;exact .inr ⟨ck.1,λh=>by rw[h]at ck;cases ck.2⟩
 have V5:∀L:Nat->Bool,wz ops L i->nM (gm (fD ops bd i) (b0 (λ_=>true) rs F)) p ks o (b0 L rs F):=λL cq=>by
  refine⟨Am ae cq.2.2,?_,λk aj=>?_,λt al=>?_,λx U=>J7 (Wn x U)⟩
  .rw [NT];have:=RM fh
   rwa [show(b0 (λ_=>true) rs F).map (·.1)=eI (b0 (λ_=>true) rs F)from rfl,NT]at this
  .rcases gI L k cq with h|h
   .rw [h];exact Ra
   .rw [h];rcases adX (F:=b0 (λ_=>true) rs F) (k:=k)with h|h
    .rw [h];exact Ra
    .have:=a6.1 e0 _ h;simp only[aj,tR]at this;exact this
  .exact aiE L cq t al
 have oO:∀x∈rs,∀b∈bd,x.1=b.1->x.2.map (·.1)=b.2.1->hV ops ops.size x.1 i=true∨(b.2.2=none/\(∀t,dp x.2 t=true->dp p t=false)/\(G1 ops bd (b0 (λ_=>true) rs F) p b.1 || (again E f ops bd (b0 (λ_=>true) rs F) p b || G0 E ops bd i (b0 (λ_=>true) rs F) p ks b.1))=true):=λx U b ag aT a5=>by
  rcases WL b ag with h|⟨I,aa,aB⟩
  .rw [<-aT]at h;exact .inl h
  .exact .inr ⟨I,λt al=>aa t (by rw[<-a5];exact Cy.1 al),aB⟩
 refine⟨⟨λx U=>?_,⟨λx U y aw=>?_,?_⟩,?_,λb ag=>?_,λx U=>?_,λx U ao t al=>?_,?_,?_⟩,by rw[pA];rfl⟩
 .rcases bB.1 U with U|U
  .have:=ae.lt x U;omega
  .simp only[aM]at U;subst U;simp
 .rcases bB.1 U with U|U
  .exact ae.ok.key x U y aw
  .simp only[aM]at U;subst U;exact Wn y aw
 .rw [Cj,Ch];refine⟨ae.ok.idx,by simp,?_⟩;rintro a aC b ag rfl;simp only[cD,List.map_nil,aM]at ag;obtain⟨z,aG,rfl⟩:=cT.1 aC;exact bU z aG ag
 .rw [cu];refine⟨ae.ww,cA _ _,λx U y aw s a b=>?_⟩;simp only[aM]at aw;subst aw;obtain⟨agJ,aiv,aT,a5,_⟩:=ae.q7 x U;rcases oO x U agJ aiv aT a5 with h|⟨_,h,_⟩
  .exact h
  .rw [h s a]at b;cases b
 .rcases cc.1 ag with rfl|ag
  .exact ⟨_,c_ _ (aM.2 rfl),rfl,rfl⟩
  .obtain ⟨x,U,h⟩:=ae.mA b ag;exact⟨x,dR _ U,h⟩
 .rcases bB.1 U with U|U
  .obtain ⟨b,ag,aT,a5,hf⟩:=ae.q7 x U;refine⟨b,by simp[ag],aT,a5,?_⟩;cases j9:b.2.2 with
   |some oT=>
    rw[j9]at hf;obtain⟨o',M,f1,f2,f3,f4,f5,f6⟩:=hf;refine⟨o',M,f1,f2,f3,f4,f5,λL cq=>?_⟩;have qF:L i=false:=by
     rcases oO x U b ag aT a5 with h|⟨h,_⟩
     .cases ad:L i with
      |false=>rfl
      |true=>have:=cq.1 _ _ h ad;rw[cq.2.1]at this;cases this
     .rw [j9]at h;cases h
    rw[pA,qF];exact f6 L cq
   |none=>
   rw[j9]at hf;obtain⟨o',bf,f1,f2,f3⟩:=hf;refine⟨o',bf,f1,f2,λL cq=>?_⟩;obtain⟨c5,eo,h9⟩:=f3 L cq;rw[pA]
   split
   .rename_i qF;rcases oO x U b ag aT a5 with h|⟨_,V0,dB⟩
    .have:=cq.1 _ _ h qF;rw[cq.2.1]at this;cases this
    ·
     have hm:=Am ae (L:=L) (i:=x.1) cq.2.2;have NK:∀t,o'.dst=some t->get (eB p (b0 L rs F)) t=.undef:=λt al=>by
      rw[p3 (V0 t (by rw[f2];exact v7.2 al))];exact h9 t al
     rw[bo]at dB;rcases dB with dB|dB
     .unfold G1 at dB;rw[<-aT,f1]at dB;simp only[aA,kf]at dB;obtain⟨⟨aj,ef⟩,fH⟩:=dB;have hm:=Am ae (L:=L) (i:=x.1) cq.2.2;have look:∀u∈iN o',get (b0 L rs F) u=get (b0 (λ_=>true) rs F) u/\dp p u=false/\∀s∈kL (get (b0 (λ_=>true) rs F) u),dp p s=false:=λu hu=>by
       have:=a6.1 fH u hu;simp only[aA,b3]at this;obtain⟨⟨⟨o5,q5⟩,FD⟩,PW⟩:=this;refine⟨?_,FD,λs ae=>?_⟩
       .have h:=hm u;rw[xY,if_neg (by rw[o5];exact vM)]at h;rcases h with h|h
        .rw [q5]at h;cases h
        .exact h
       .have:=a6.1 PW s ae;simpa using this
      have ad:e5 E f call ops (eB p (b0 L rs F)) o'=e5 E f call ops (b0 L rs F) o':=aaj aj ef λu hu=>by
       obtain⟨o5,q5,FD⟩:=look u hu;refine⟨p3 q5,λs ae=>p3 ?_⟩;rw[o5]at ae;exact FD s ae
      refine⟨by rw[ad];exact c5,?_,λt al=>by rw[p3 (V0 t (by rw[f2];exact v7.2 al))];exact h9 t al⟩;unfold jZ at eo⊢;rw[a6]at eo⊢;intro t al;have:=eo t al;rcases bB.1 al with al|al
      .rw [p3 (look t al).2.1];exact this
      .simp [z7,ef]at al
     rw[bo]at dB;rcases dB with dB|dB
     case inr=>
      unfold G0 at dB;rw[<-aT,f1]at dB;simp only at dB
      split at dB
      case h_2=>cases dB
      rename_i s c y0;simp only[aA]at dB;obtain⟨⟨D8,Nq⟩,ain⟩:=dB;obtain⟨v,l1,_,r6,ES⟩:=Sx ae (L:=L) (j:=x.1) cq.2.2 y0 Nq;have ah9:wz ops (λk=>L k&&decide (k<i)) i:=⟨λa k b_ cM=>by
       simp only[aA,decide_eq_true_eq]at cM⊢;exact⟨cq.1 _ _ b_ cM.1,Nat.lt_trans (GC b_) cM.2⟩,by simp,λa b_=>by
       simp only[aA,decide_eq_true_eq]
       exact⟨cq.1 _ _ b_ qF,GC b_⟩⟩
      have iS:b0 (λk=>L k&&decide (k<i)) rs F=b0 L rs F:=xS λy aw=>by
       have:=ae.lt y aw;simp only[Bool.and_eq_left_iff_imp,decide_eq_true_eq];intro _;omega
      have nZ:=V5 _ ah9;rw[iS]at nZ;simp only[Hb,an,aA]at D8;have n5:=Sb D8.1 af (FZ cF).1 nZ D8.2;have l2:nQ E o' s c (eB p (b0 L rs F)):=l1.at λu hu ao=>by
       refine p3 ?_;have:=a6.1 ain u hu;simp only[bo,b3]at this;rcases this with h|h
       .exact absurd (dn h) ao
       .exact h
      refine⟨?_,l2.Xq (n5.trans r6),NK⟩;exact l1.val l2 r6 (n5.trans r6) c5
     unfold again at dB;rw[<-aT,f1]at dB;simp only[bo]at dB;rcases dB with dB|dB
     .simp only[aA]at dB;obtain⟨d2,xc⟩:=hF.1 dB.1;have l1:dF (gm (p.map (·.1)++fD ops bd x.1) (b0 (λ_=>true) rs F)) (b0 L rs F):=λk=>by
       rw[xY];by_cases aj:(p.map (·.1)++fD ops bd x.1).contains k=true
       .rw [if_pos aj];exact .inl rfl
       .rw [if_neg aj];have:=hm k;rw[xY,if_neg (λh=>aj (by simp only[fR,decide_eq_true_eq,bB]at h⊢;exact .inr h))]at this;exact this
      have l2:dF (gm (p.map (·.1)++fD ops bd x.1) (b0 (λ_=>true) rs F)) (eB p (b0 L rs F)):=λk=>by
       cases aj:dp p k with
       |true=>
        left;rw[xY,if_pos (by simp only[fR,decide_eq_true_eq,bB];exact .inl (Cy.1 aj))];rfl
       |false=>rw[p3 aj];exact l1 k
      have v1:=zO l1 dB.2 (hle xc);rw[c5]at v1;have v2:=zO l2 dB.2 (hle xc);exact⟨by rw[v2,v1],FY l2 dB.2,NK⟩
     .split at dB
      .rename_i d1 d2 NA xc;simp only[aA]at dB;have gn:=aap dB.1.1;have v1:=zO hm dB.2 (hle xc);rw[c5]at v1;have l2:=hm.eB p;have v2:=zO l2 dB.1.2 (hle NA);exact⟨by rw[v2,gn,v1],FY l2 dB.1.2,NK⟩
      .cases dB
   .exact ⟨c5,eo,h9⟩
  .simp only[aM]at U;subst U;refine⟨_,hP,rfl,rfl,o,_,an,cF,hw,af,λt al=>?_,λL cq=>?_⟩
   .rw [al]at U9;exact U9
   .have qF:L i=false:=cq.2.1;rw[pA,qF];simp only[aQ,if_false];exact V5 L cq
 .rcases bB.1 U with U|U
  .obtain ⟨a2,bA⟩:=ae.Pq x U (λb ag=>ao b (by simp[ag])) t al;refine⟨a2,λy aw fU nh=>?_⟩;rcases bB.1 aw with aw|aw
   .exact bA y aw (λb ag=>fU b (by simp[ag])) nh
   .simp only[aM]at aw;subst aw;have:=fU (i,p.map (·.1),some ks) (by simp) rfl;cases this
  .simp only[aM]at U;subst U;have:=ao (i,p.map (·.1),some ks) (by simp) rfl;cases this
 .rw [cu];refine⟨ae.O5.imp λh aw=>h λb ag=>aw b (by simp[ag]),cA _ _,λx U y aw fU=>?_⟩;simp only[aM]at aw;subst aw;have:=fU (i,p.map (·.1),some ks) (by simp) rfl;cases this
 .rw [cu];refine⟨ae.HI,cA _ _,λx U y aw=>?_⟩;simp only[aM]at aw;subst aw;have:=ae.lt x U;simp only;omega
def Ends(E:Env)(f:Nat)(V:List Nat)(call:Nat->List D->Option (D×List D))(ops:Array Oper)(F:Fr)(i:Nat)(rs:kS)(nO:Fr):Prop:=
 ∃ e pZ MN,lj E f V call ops F e pZ MN/\e<=ops.size/\(∀ j,j<e->j<i∨∃ x∈pZ,x.1=j)/\i<=e/\(∃ ext,pZ=rs++ext/\∀ x∈ext,i<=x.1) /\
    ((e=ops.size/\nO=b0 (λ_=>true) pZ F) ∨
     (∃o,ops[e]?=some o/\la ops e=true/\∃x,fV ops (b0 (λ_=>true) pZ F) o=some x /\
      ∃aD,(if x then cV E f V call (b0 (λ_=>true) pZ F) o else some (fin (b0 (λ_=>true) pZ F) o.dst (.bt [])))=some aD/\j0 E f V call ops (lI (e+1) (ops.size-(e+1))) [] aD=some nO))
theorem JN{nO:Fr}:
  ∀(k i:Nat){rs:kS}{bd:g6},i+k=ops.size->lj E f V call ops F i rs bd->j0 E f V call ops (lI i k) bd (b0 (λ_=>true) rs F)=some nO->Ends E f V call ops F i rs nO
 |0,i,rs,bd,aj,ae,ah=>by
  simp only[List.range'_zero,j0,aE]at ah;exact⟨i,rs,bd,ae,by omega,λj aH=>.inl aH,fW i,⟨[],by simp,by simp⟩,.inl ⟨by omega,ah.symm⟩⟩
 |k+1,i,rs,bd,aj,ae,ah=>by
  have l4:ops.size-(i+1)=k:=by omega
  have Nd:∀{p:iz}{MO:g6},lj E f V call ops F (i+1) (rs++[(i,p)]) MO->j0 E f V call ops (lI (i+1) k) MO (b0 (λ_=>true) (rs++[(i,p)]) F)=some nO->Ends E f V call ops F i rs nO:=λ{p} {MO} ds l0=>by
   obtain⟨e,pZ,MN,r1,r2,dv,sq,⟨ext,dw,iX⟩,nu⟩:=JN k (i+1) (by omega) ds l0;refine⟨e,pZ,MN,r1,r2,λj aH=>?_,by omega,⟨(i,p)::ext,by rw[dw,List.append_assoc];rfl,λx U=>?_⟩,nu⟩
   .rcases dv j aH with h|h
    .rcases zC j i with da|da
     .exact .inl da
     .have:j=i:=by omega
      subst this;exact .inr ⟨_,by rw[dw];exact dR _ (c_ _ (aM.2 rfl)),rfl⟩
    .exact .inr h
   .rcases cc.1 U with rfl|h
    .exact fW _
    .have:=iX x h;omega
  rw[List.range'_succ]at ah;simp only[j0]at ah
  split at ah
  .cases ah
  .rename_i o an;by_cases oK:la ops i=true
   case neg=>
    rw[if_neg oK]at ah
    split at ah
    .rename_i d af
     split at ah
     case isFalse=>cases ah
     rename_i ad;simp only[aA]at ad;obtain⟨⟨⟨I,aa⟩,aB⟩,aW⟩:=ad;obtain⟨b_,cM⟩:=ae.read (fW i) an af I aa aB aW;exact Nd b_ (by rw[cM];exact ah)
    .split at ah
     .rename_i b ag;unfold oI at ag
      split at ag
      .rename_i d A7
       split at ag
       case isFalse=>cases ag
       rename_i ad;simp only[aA]at ad;obtain⟨⟨aa,aB⟩,aW⟩:=ad;simp only[aE]at ag;subst ag;unfold Af at A7
       split at A7
       case h_2=>cases A7
       rename_i s c y0
       split at A7
       case isFalse=>cases A7
       rename_i dH;obtain⟨b_,cM⟩:=ae.Xl (fW i) an (λL cq=>by
        obtain⟨v,l1,l2,r6,ES⟩:=Sx ae (L:=L) (j:=i) cq.2.2 y0 dH
        exact⟨l2.val l1 ES r6 A7,l1.Xq r6⟩) aa aB aW
       exact Nd b_ (by rw[cM];exact ah)
      split at ag
      case h_2=>cases ag
      rename_i hw
      split at ag
      case h_2=>cases ag
      rename_i r hr
      split at ag
      case isFalse=>cases ag
      rename_i cm;simp only[aE]at ag;subst ag;obtain⟨b_,cM⟩:=ae.act hle (fW i) an (p:=r.1) (ks:=r.2) hw hr cm;exact Nd b_ (by rw[cM];exact ah)
     .cases ah
   case pos=>
    rw[if_pos oK]at ah;refine⟨i,rs,bd,ae,by omega,λj aH=>.inl aH,fW i,⟨[],by simp,by simp⟩,.inr ⟨o,an,oK,?_⟩⟩;cases hw:fV ops (b0 (λ_=>true) rs F) o with
    |none=>simp[hw]at ah
    |some x=>
     refine⟨x,rfl,?_⟩;rw[hw]at ah;cases x with
     |true=>
      simp only at ah;cases ad:cV E f V call (b0 (λ_=>true) rs F) o with
      |none=>simp[ad]at ah
      |some aX=>
       simp only[ad]at ah;exact⟨aX,by simp,by rw[l4];exact ah⟩
     |false=>exact⟨_,by simp;rfl,by rw[l4];exact ah⟩
omit hle
section
variable{n:Nat}{R:Nat->Value}{M:Mem}{G:bK}{H:dD}{w0:World}{B:List Nat}
theorem Te{F:Fr}{dst:Option Nat}{d:D}(h:∀t,dst=some t->get F t=.undef):fin F dst d=lF F dst d:=by
 cases dst with
 |none=>rfl
 |some t=>simp only[fin,put,h t rfl,D.quiet,if_true,lF]
theorem Ue{E:Env}{f:Nat}{V:List Nat}{call:Nat->List D->Option (D×List D)}(cn:lL E call)(ef:Good E M){ops:Array Oper}(dM:rn n ops){Q:Exit->Act->World->Prop}{F aD:Fr}{a:Act}{w:World}(h:cJ n R M B w0 F a w){i:Nat}{o:Oper}(an:ops[i]?=some o){x:Bool}(hw:fV ops F o=some x)
  (aP:(if x then cV E f V call F o else some (fin F o.dst (.bt [])))=some aD) {K:Act->World->Prop} (dA:∀cp w',cJ n R M B w0 aD cp w'->K cp w'):wpOp E.P ops Q i K a w:=by
 obtain⟨b1,bQ,I,aT⟩:=h;unfold wpOp;simp only[an];rw[Kr I dM.guard hw];cases x with
 |true=>
  simp only[if_true]at aP⊢;exact .inl (Mb cn (ef.mono aT.iW) I (dM i o an) aP λcp w' af=>dA _ _ (af.trans aT))
 |false=>
  simp only[aQ,if_false,aE]at aP⊢;subst aP;exact dA _ _ ((vR I o.dst (dM i o an).2 (cN.refl b1 _ _)).trans aT)
theorem aaT(hle:∀{o:Oper}{A:Fr}{d:D},e5 E f x7 ops A o=some d->e5 E f call ops A o=some d)(cn:lL E call)(ef:Good E M)(dM:rn n ops)(Nu:Gd ops=true){Q:Exit->Act->World->Prop}{nO:Fr}(cl:∀cp w',cJ n R M B w0 nO cp w'->Q .normal cp w'):
  ∀(fuel:Nat){listed:Array Bool}{F:Fr}{a:Act}{w:World}{e:Nat}{rs:kS}{bd:g6},listed.size=ops.size->left ops listed<=fuel->Lt ops listed->(∀j,j<e->e7 listed j=true∨∃x∈rs,x.1=j) ->
   lj E f V call ops F e rs bd->e<=ops.size->(∀i,e7 listed i=true->i<e) ->
   ((e=ops.size/\nO=b0 (λ_=>true) rs F) ∨
     (∃o,ops[e]?=some o/\la ops e=true/\∃x,fV ops (b0 (λ_=>true) rs F) o=some x /\
      ∃aD,(if x then cV E f V call (b0 (λ_=>true) rs F) o else some (fin (b0 (λ_=>true) rs F) o.dst (.bt [])))=some aD/\j0 E f V call ops (lI (e+1) (ops.size-(e+1))) [] aD=some nO)) ->
   cJ n R M B w0 (b0 (e7 listed) rs F) a w->wpAny E.P .any ops Q fuel listed a w:=by
 intro fuel
 induction fuel with
 |zero=>
  intro listed F a w e rs bd fO Wp db eJ c8 he yX nd xg;have fH:∀i,i<ops.size->e7 listed i=true:=λi hi=>by
   cases ch:e7 listed i with
   |true=>rfl
   |false=>
    have:i∈(hR ops.size).filter λi=>!e7 listed i:=by rw[hb,fB];exact⟨hi,by simp[ch]⟩
    have aO:=List.length_pos_of_mem this;unfold left at Wp;omega
  have V4:e=ops.size:=by
   by_cases aG:ops.size=0
   .omega
   .have:=yX (ops.size-1) (fH _ (by omega));omega
  have e2:nO=b0 (e7 listed) rs F:=by
   rcases nd with⟨_,h⟩|⟨o,an,_⟩
   .rw [h];exact xS λx U=>(fH x.1 (by have:=c8.lt x U;omega)).symm
   .have:=(cz.1 an).1;omega
  refine⟨?_,?_⟩
  .rw [List.eq_nil_iff_forall_not_mem];intro i hi;obtain⟨o,an,I,_⟩:=(KK fO).1 hi;rw[fH i (cz.1 an).1]at I;cases I
  .rw [<-e2]at xg;exact cl _ _ xg
 |succ fuel aN=>
  intro listed F a w e rs bd fO Wp db eJ c8 he yX nd xg;have first:∀m,m<ops.size->e7 listed m=false->(∀i,i<m->e7 listed i=true)->m∈Region.ready .any ops listed:=λm hm ao bU=>by
   rw[KK fO];refine⟨ops[m],b5 hm,ao,λwZ Ic AZ=>?_⟩;have j9:=a6.1 Nu m (fB.2 hm);rw[b5 hm]at j9;simp only[a6]at j9;have:=j9 wZ (by simpa using Ic);simp only[AZ,Bool.not_true,tR,decide_eq_true_eq]at this;exact bU _ this
  have full:(∀i,i<e->e7 listed i=true)->b0 (e7 listed) rs F=b0 (λ_=>true) rs F:=λaU=>xS λx U=>aU x.1 (c8.lt x U);constructor
  .intro aju;have fH:∀i,i<ops.size->e7 listed i=true:=by
    intro i
    induction i using Nat.strongRecOn with
    |ind i OJ=>
     intro hi;cases ch:e7 listed i with
     |true=>rfl
     |false=>
      have:=first i hi ch (λk aj=>OJ k aj (by omega))
      rw[aju]at this;cases this
   have V4:e=ops.size:=by
    by_cases aG:ops.size=0
    .omega
    .have:=yX (ops.size-1) (fH _ (by omega));omega
   rcases nd with⟨_,h⟩|⟨o,an,_⟩
   .rw [full (λi hi=>fH i (by omega)),<-h]at xg;exact cl _ _ xg
   .have:=(cz.1 an).1;omega
  .intro i hi;obtain⟨o,an,Bd,Iz⟩:=(KK fO).1 hi;have Wi:=(cz.1 an).1;have Om:(listed.setIfInBounds i true).size=ops.size:=by simpa using fO
   have VW:Lt ops (listed.setIfInBounds i true):=by
    intro k ok aj Em wZ Ic AZ;rw[wg (by omega)]at Em⊢;simp only[bo,beq_iff_eq]at Em⊢;rcases Em with Em|rfl
    .exact .inl (db k ok aj Em wZ Ic AZ)
    .rw [an]at aj;cases aj;exact .inl (Iz wZ Ic AZ)
   have Wq:left ops (listed.setIfInBounds i true)<=fuel:=by
    have:=acp fO Wi Bd;omega
   have VX:∀j k,hV ops ops.size j k=true->e7 listed k=true->e7 listed j=true:=λj k hr aj=>by
    cases au:ops[k]? with
    |none=>cases ao:ops.size<;>simp[hV,au,ao]at hr
    |some ok=>exact Cr db ops.size j k ok au (db k ok au aj) hr
   have WJ:wz ops (e7 listed) i:=⟨VX,Bd,λj aH=>Cr db ops.size j i o an Iz aH⟩
   by_cases Wh:i<e
   ·
    obtain⟨x,U,ib⟩:∃x∈rs,x.1=i:=by
     rcases eJ i Wh with h|h
     .rw [Bd]at h;cases h
     .exact h
    obtain⟨kA,p⟩:=x;simp only at ib;subst ib;obtain⟨b,ag,aT,a5,hf⟩:=c8.q7 _ U;have aio:∃q7,fV ops (b0 (e7 listed) rs F) o=some q7/\(if q7 then cV E f V call (b0 (e7 listed) rs F) o else some (fin (b0 (e7 listed) rs F) o.dst (.bt [])))=some (eB p (b0 (e7 listed) rs F)):=by
     cases aj:b.2.2 with
     |none=>
      rw[aj]at hf;obtain⟨o',d,f1,f2,f3⟩:=hf;simp only at f1 f2;rw[an]at f1;cases f1;obtain⟨c5,eo,h9⟩:=f3 _ WJ;rw[f2,SK];have qJ:∀s,o.dst=some s->get (b0 (e7 listed) rs F) s=.undef:=h9;unfold e5 at c5
      split at c5
      .rename_i OC;refine⟨true,OC,?_⟩;simp only[if_true];rw[Lq c5,Te qJ]
      .rename_i OC;refine⟨false,OC,?_⟩;simp only[aE]at c5;subst c5;simp only[aQ,if_false,Te qJ]
      .cases c5
     |some ks=>
      rw[aj]at hf;obtain⟨o',M',f1,f2,f3,f4,f5,f6⟩:=hf;simp only at f1;rw[an]at f1;cases f1;have g:=f6 _ WJ;obtain⟨b_,cM⟩:=FZ f2;refine⟨true,by rw[QN g.less cM];exact f3,?_⟩;simp only[if_true];exact Tc f4 b_ g
    obtain⟨q7,hw,aP⟩:=aio;refine Ue cn ef dM xg an hw aP λcp w' fy=>?_;refine aN Om Wq VW (λk aj=>?_) c8 he (λk aj=>?_) nd ?_
    .rcases eJ k aj with h|h
     .left;rw[wg (by omega),h];rfl
     .exact .inr h
    .rw [wg (by omega)]at aj;simp only[bo,beq_iff_eq]at aj;rcases aj with aj|rfl
     .exact yX k aj
     .exact Wh
    .have:b0 (e7 (listed.setIfInBounds kA true)) rs F=b0 (λk=>e7 listed k || k==kA) rs F:=xS λy _=>wg (listed:=listed) (i:=kA) (by omega) y.1;rw[this,K0 (R:=λa b=>hV ops ops.size a b=true) VX c8.ok c8.ww U Bd];exact fy
   ·
    rcases nd with⟨V4,_⟩|⟨amC,N7,oK,q7,hw,aD,aP,tn⟩
    .omega
    .have zb:=(cz.1 N7).1;have VN:=a6.1 oK;have aiZ:i=e:=by
      rcases zC e i with bU|gz
      .have:=VN i (fB.2 Wi);rw[if_neg (by omega),if_pos bU]at this;have ch:=Cr db ops.size e i o an Iz this;have:=yX e ch;omega
      .omega
     subst aiZ;rw[an]at N7;cases N7;have VM:∀k,k<i->e7 listed k=true:=λk aj=>by
      have:=VN k (fB.2 (by omega));rw[if_pos aj]at this;exact Cr db ops.size k i o an Iz this
     rw[full VM]at xg;refine Ue cn ef dM xg an hw aP λcp w' fy=>?_;have ajg:∀k,k<i+1->e7 (listed.setIfInBounds i true) k=true:=λk aj=>by
      rw[wg (by omega)];rcases zC k i with h|h
      .rw [VM k h];rfl
      .have:k=i:=by omega
       simp[this]
     have Ie:lj E f V call ops aD (i+1) [] []:=⟨by simp,⟨by simp,by simp⟩,eW,by simp,by simp,by simp,eW,eW⟩
     obtain⟨a5,alk,al6,aj6,u5,aj2,ajb,⟨ext,aiP,ajt⟩,aiL⟩:=JN (E:=E) (f:=f) (V:=V) (call:=call) (ops:=ops) (F:=aD) hle (ops.size-(i+1)) (i+1) (rs:=[]) (bd:=[]) (by omega) Ie (by simpa[b0]using tn);refine aN Om Wq VW (λk aj=>?_) aj6 u5 (λk aj=>?_) aiL ?_
     .rcases aj2 k aj with h|h
      .exact .inl (ajg k h)
      .exact .inr h
     .rw [wg (by omega)]at aj;simp only[bo,beq_iff_eq]at aj;rcases aj with aj|rfl
      .have:=yX k aj;omega
      .omega
     .have:b0 (e7 (listed.setIfInBounds i true)) alk aD=aD:=by
       have ajy:∀{rs:kS}{F:Fr},(∀y∈rs,e7 (listed.setIfInBounds i true) y.1=false)->b0 (e7 (listed.setIfInBounds i true)) rs F=F:=by
        intro rs
        induction rs with
        |nil=>intro F _;rfl
        |cons y rs OJ=>
         obtain⟨k,d⟩:=y;intro F aw;simp only[b0,aw (k,d) (by simp),aQ,if_false];exact OJ λy OF=>aw y (by simp[OF])
       refine ajy λy aw=>?_;rw[aiP,Ci]at aw;have:=ajt y aw;rw[wg (listed:=listed) (i:=i) (by omega)];cases ch:e7 listed y.1 with
       |true=>have:=yX y.1 ch;omega
       |false=>simp;omega
      rw[this];exact fy
theorem z5:∀(l:List Oper){F:Fr}{a:Act}{w:World},(∀o∈l,∀t,o.dst=some t->t<n)->cJ n R M B w0 F a w->cJ n R M B w0 (mn F l) a w
 |[],_,_,_,_,h=>h
 |o::l,F,a,w,hl,h=>by
  have one:∀t,t<n->cJ n R M B w0 (put F t .undef) a w:=λt al=>by
   obtain⟨b1,bQ,I,aT⟩:=h;have bU:t<a.tmps.size:=by rw[I.size];exact al
   have ag:(T.leaf .undef (a.tmps[t])).blocks=[]:=by simp[T.blocks]
   have:=kM (M:=b1) (w:=w) (B:=keys (a8 bQ)) (t:=.leaf .undef a.tmps[t]) (by rw[ag];exact I) (by simp[T.tidy]) (by simp[fg,fm,aJ]) (some t) (λd ah=>by cases ah;exact al) (by rw[ag];simpa using cN.refl b1 _ w);have he:a.put (some t) a.tmps[t]=a:=by
    unfold Act.put;have:a.tmps.setIfInBounds t a.tmps[t]=a.tmps:=by
     apply Array.ext';rw[Array.toList_setIfInBounds];exact Aa (by rw[Array.getElem?_toList,b5 bU])
    show({ a with tmps:=a.tmps.setIfInBounds t a.tmps[t] }:Act)=a;rw[this]
   simp only[T.erase,T.val,he,fin]at this;exact this.trans aT
  simp only[mn]
  split
  .rename_i t _ _;have al:o.dst=some t:=by assumption
   cases kK (get F t)with
   |true=>exact z5 l (λo an=>hl o (by simp[an])) (one t (hl o (by simp) t al))
   |false=>exact z5 l (λo an=>hl o (by simp[an])) h
  .exact z5 l (λo an=>hl o (by simp[an])) h
  .rename_i t _ _;have al:o.dst=some t:=by assumption
   exact z5 l (λo an=>hl o (by simp[an])) (one t (hl o (by simp) t al))
  .exact z5 l (λo an=>hl o (by simp[an])) h
theorem QI(hle:∀{o:Oper}{A:Fr}{d:D}{ops:Array Oper},e5 E f x7 ops A o=some d->e5 E f call ops A o=some d)(cn:lL E call)(ef:Good E M)(hm:E.P.follows .mixedOrders=true){ops:Array Oper}(dM:rn n ops){Q:Exit->Act->World->Prop}{id:Nat}{F nO:Fr}{a:Act}{w:World}(h:cJ n R M B w0 F a w)
  (Nu:Gd ops=true) (ah:j0 E f V call ops (hR ops.size) [] (mn F ops.toList)=some nO) (cl:∀cp w',cJ n R M B w0 nO cp w'->Q .normal cp w'):(Code.region id ops true).wp E.P Q a w:=by
 refine wp_region_any hm ?_;have aa:cJ n R M B w0 (mn F ops.toList) a { w with drawn:=w.drawn+1 }:=by
  obtain⟨b1,bQ,I,aT⟩:=z5 ops.toList (λo an t al=>by
   obtain⟨i,hi,rfl⟩:=List.getElem_of_mem an
   exact(dM i _ (by rw[b5 (by simpa using hi)];simp)).2 t al) h
  exact⟨b1,bQ,I.nc rfl,aT.nc rfl rfl rfl rfl⟩
 have Ie:lj E f V call ops (mn F ops.toList) 0 [] []:=⟨by simp,⟨by simp,by simp⟩,eW,by simp,by simp,by simp,eW,eW⟩
 obtain⟨e,rs,bd,c8,he,eJ,_,hex,nd⟩:=JN (E:=E) (f:=f) (V:=V) (call:=call) (ops:=ops) (F:=mn F ops.toList) hle ops.size 0 (rs:=[]) (bd:=[]) (by omega) Ie (by simpa[b0,List.range_eq_range']using ah);have Od:∀i,e7 (kH ops.size false) i=false:=λi=>by
  unfold e7;simp only[eb,Array.getElem?_replicate]
  split<;>rfl
 refine aaT hle cn ef dM Nu cl ops.size (by simp) ?_ (λi o _ hi=>by rw[Od]at hi;cases hi) (λj aH=>by rcases eJ j aH with h|h;omega;exact .inr h) c8 he (λi hi=>by rw[Od]at hi;cases hi) nd ?_
 .unfold left;have:=List.length_filter_le (λi=>!e7 (kH ops.size false) i) (hR ops.size);simpa using this
 .have:b0 (e7 (kH ops.size false)) rs (mn F ops.toList)=mn F ops.toList:=by
   generalize mn F ops.toList=fS;clear c8 nd eJ hex Ie
   induction rs generalizing fS with
   |nil=>rfl
   |cons y rs aN=>obtain⟨k,d⟩:=y;simp only[b0,Od k,aQ,if_false];exact aN fS
  rw[this];exact aa
end
end Go.aS
