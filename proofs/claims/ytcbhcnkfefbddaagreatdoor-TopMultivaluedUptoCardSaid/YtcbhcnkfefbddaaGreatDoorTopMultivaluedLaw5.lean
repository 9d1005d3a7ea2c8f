/- What the functions answer. No conditions. -/
import Derived.Test.YtcbhcnkfefbddaaGreatDoorOwn24
import Derived.Test.YtcbhcnkfefbddaaGreatDoorOwn32
set_option linter.all false
open Nat renaming testBit_and->aA,pow_le_pow_right->aQ,lt_of_lt_of_le->a6,lt_of_le_of_lt->ba,exists_testBit_of_ne_zero->bo,zero_testBit->bB,testBit_or->b5,eq_of_testBit_eq->cu,testBit_lt_two_pow->cA,or_lt_two_pow->c_,div_eq_of_lt->du,and_le_left->dR,min_eq_left->eb
open Bool renaming and_eq_true->aM,not_eq_true'->cx,true_and->cT
open List renaming mem_cons_of_mem->bL,mem_filter->b3,mem_cons->cc,mem_map->cz,pairwise_map->cD
open Int renaming toNat_natCast->dn
namespace Go.aS
def top:IntKind->Nat
 | .u8=>8
 | .u32=>32
 | .u64=>64
 | .i64=>63
 |_=>0
def GG(k:IntKind):top k<=k.bits:=by cases k<;>decide
def nD{k:IntKind}{n:Nat}(h:n<2^top k):k.wrap (n:Int)=n:=by
 cases k<;>simp only[top]at h<;>simp only[IntKind.wrap,IntKind.bits,IntKind.signed]<;>simp<;>omega
def ub{k:IntKind}{n:Nat}(h:n<2^top k):(BitVec.ofInt k.bits (n:Int)).toNat=n:=by
 have aa:n<2^k.bits:=a6 h (aQ (by decide) (GG k));have e:BitVec.ofInt k.bits (n:Int)=BitVec.ofNat k.bits n:=by rw[BitVec.ofInt_natCast]
 rw[e,BitVec.toNat_ofNat,Nat.mod_eq_of_lt aa]
def sC{k:IntKind}{a b:Nat}(aC:a<2^top k)(ag:b<2^top k):dW k (a:Int) (b:Int)=((a &&& b:Nat):Int):=by
 unfold dW;rw[BitVec.toNat_and,ub aC,ub ag];exact nD (ba dR aC)
def p9{k:IntKind}{a b:Nat}(aC:a<2^top k)(ag:b<2^top k):eZ k (a:Int) (b:Int)=((a ||| b:Nat):Int):=by
 unfold eZ;rw[BitVec.toNat_or,ub aC,ub ag];exact nD (c_ aC ag)
def S2{k:IntKind}{a b:Nat}(aC:a<2^top k)(ag:b<2^top k):jF k (a:Int) (b:Int)=((a ^^^ b:Nat):Int):=by
 unfold jF;rw[BitVec.toNat_xor,ub aC,ub ag];exact nD (Nat.xor_lt_two_pow aC ag)
def bF(a b:Nat):Nat:=a &&& (a ^^^ b)
def fa{a b i:Nat}:(bF a b).testBit i=(a.testBit i&&!b.testBit i):=by
 unfold bF;rw[aA,Nat.testBit_xor];cases a.testBit i<;>cases b.testBit i<;>rfl
def oq{a b:Nat}:bF a b<=a:=dR
def sz{k:IntKind}{a b:Nat}(aC:a<2^top k)(ag:b<2^top k):fK k (a:Int) (b:Int)=((bF a b:Nat):Int):=by
 unfold fK;have:(BitVec.ofInt k.bits (a:Int) &&& ~~~BitVec.ofInt k.bits (b:Int)).toNat=bF a b:=by
  apply cu;intro i;rw[fa,BitVec.toNat_and,aA,ub aC,BitVec.testBit_toNat,BitVec.getLsbD_not,<-BitVec.testBit_toNat,ub ag];by_cases hi:i<k.bits
  .simp [hi]
  .have:a.testBit i=false:=cA (a6 aC (aQ (by decide) (Nat.le_trans (GG k) (by omega))));simp[hi,this]
 rw[this];exact nD (ba oq aC)
def ot{k:IntKind}{a i:Nat}(aC:a<2^top k):ft k (a:Int) (i:Int)=((a / 2^i:Nat):Int):=by
 unfold ft;rw[dn];have e:((2:Int)^min i k.bits)=((2^min i k.bits:Nat):Int):=by simp
 rw[e,Int.fdiv_eq_ediv_of_nonneg _ (Int.natCast_nonneg _),<-Int.natCast_ediv];congr 1;by_cases h:i<=k.bits
 .rw [eb h]
 .have aa:a<2^k.bits:=a6 aC (aQ (by decide) (GG k));rw[Nat.min_eq_right (by omega),du aa,du (a6 aa (aQ (by decide) (by omega)))]
def C0{k:IntKind}{i:Nat}(hi:i<top k):jo k 1 (i:Int)=((2^i:Nat):Int):=by
 unfold jo;have aa:=GG k;rw[dn,eb (by omega),Int.one_mul];have e:((2:Int)^i)=((2^i:Nat):Int):=by simp
 rw[e];exact nD (Nat.pow_lt_pow_right (by decide) hi)
def TM{k:IntKind}{a i:Nat}(aC:a<2^top k)(aj:0<top k):dW k (ft k (a:Int) (i:Int)) 1=if a.testBit i then 1 else 0:=by
 rw[ot aC];have I:(1:Nat)<2^top k:=Nat.one_lt_two_pow (by omega);have:=sC (k:=k) (a:=a / 2^i) (b:=1) (ba (Nat.div_le_self _ _) aC) I;rw[show((1:Nat):Int)=1 from rfl]at this;rw[this,Nat.and_one_is_mod,Nat.testBit_eq_decide_div_mod_eq];by_cases h:a / 2^i%2=1
 .simp [h]
 .have:a / 2^i%2=0:=by omega
  simp[this]
def ac7{k:IntKind}{a i:Nat}(aC:a<2^top k)(aj:0<top k):(dW k (ft k (a:Int) (i:Int)) 1=1)↔a.testBit i=true:=by
 rw[TM aC aj];cases a.testBit i<;>simp
def yl{x:Int}(h:BB .u8 x):0<=x/\x<256:=by
 have I:=h.1;have aa:=h.2;have aT:IntKind.min .u8=0:=rfl;have a5:IntKind.max .u8=255:=rfl;omega
def lN{a n:Nat}:a<2^n↔∀i,a.testBit i=true->i<n:=by
 constructor
 .intro h i hi
  false_or_by_contra
  rw[cA (a6 h (aQ (by decide) (by omega)))]at hi;cases hi
 .intro h;apply Nat.lt_pow_two_of_testBit;intro i hi;cases aC:a.testBit i with
  |false=>rfl
  |true=>have:=h i aC;omega
def Hi{a b n:Nat}:a ||| b<2^n↔a<2^n/\b<2^n:=by
 constructor
 .intro h;exact⟨ba Nat.left_le_or h,ba Nat.right_le_or h⟩
 .exact λh=>c_ h.1 h.2
def CD{a b:Nat}:bF a b=0↔∀i,a.testBit i=true->b.testBit i=true:=by
 constructor
 .intro h i hi;have:=congrArg (·.testBit i) h;simp only[fa,hi,bB,cT]at this;simpa using this
 .intro h;apply cu;intro i;rw[fa,bB];cases aC:a.testBit i with
  |false=>rfl
  |true=>rw[h i aC];rfl
def Ta{a n:Nat}:a / 2^n=0↔a<2^n:=by
 rw[Nat.div_eq_zero_iff];have:0<2^n:=Nat.pos_of_ne_zero (by simp);omega
def hS(m:Nat×Nat)(b:Nat):Bool:=decide (b &&& m.1=0)&&(decide (b &&& m.2≠0)&&decide (bF b m.2≠0))
def lK(m:Nat×Nat)(bs:List Nat):List Nat:=bs.map (λb=>if hS m b=true then b &&& m.2 else b)++(bs.filter (hS m)).map (λb=>bF b m.2)
def mq:List (Nat×Nat)->List Nat->List Nat
 |[],bs=>bs
 |m::mv,bs=>mq mv (lK m bs)
def sH(mv:List (Nat×Nat)):Nat->List Nat->List Nat
 |0,bs=>bs
 |k+1,bs=>if(mq mv bs).length=bs.length then mq mv bs else sH mv k (mq mv bs)
def kJ{a b:Nat}:a &&& b=0↔∀i,a.testBit i=true->b.testBit i=false:=by
 constructor
 .intro h i hi;have:=congrArg (λx=>x.testBit i) h;simp only[aA,hi,cT,bB]at this;exact this
 .intro h;apply cu;intro i;rw[aA,bB];cases aC:a.testBit i with
  |false=>rfl
  |true=>rw[h i aC];rfl
def L2{a b:Nat}:a &&& b≠0↔∃i,a.testBit i=true/\b.testBit i=true:=by
 constructor
 .intro h;obtain⟨i,hi⟩:=bo h;rw[aA,aM]at hi;exact⟨i,hi⟩
 .rintro ⟨i,I,aa⟩ h;have:=kJ.1 h i I;rw[aa]at this;cases this
def acw{a b:Nat}:bF a b≠0↔∃i,a.testBit i=true/\b.testBit i=false:=by
 constructor
 .intro h;obtain⟨i,hi⟩:=bo h;rw[fa,aM,cx]at hi;exact⟨i,hi⟩
 .rintro ⟨i,I,aa⟩ h;have:=CD.1 h i I;rw[aa]at this;cases this
def Uu{a:Nat}(h:a≠0):∃i,a.testBit i=true:=bo h
structure hI(rest:Nat)(bs:List Nat):Prop where
 ne:∀b∈bs,b≠0
 wW:bs.Pairwise λa b=>a &&& b=0
 all:∀i,rest.testBit i=true↔∃b∈bs,b.testBit i=true
def zP{m:Nat×Nat}{b:Nat}:hS m b=true↔b &&& m.1=0/\b &&& m.2≠0/\bF b m.2≠0:=by
 unfold hS;simp only[aM,decide_eq_true_eq]
def zI{m:Nat×Nat}{bs:List Nat}{c:Nat}:c∈lK m bs↔∃b∈bs,(hS m b=true/\(c=b &&& m.2∨c=bF b m.2))∨(hS m b=false/\c=b):=by
 unfold lK;rw[List.mem_append,cz,cz];constructor
 .rintro (⟨b,ag,rfl⟩|⟨b,ag,rfl⟩)
  .cases ae:hS m b with
   |true=>exact⟨b,ag,.inl ⟨ae,.inl (by simp)⟩⟩
   |false=>exact⟨b,ag,.inr ⟨ae,by simp⟩⟩
  .obtain ⟨I,aa⟩:=b3.1 ag;exact⟨b,I,.inl ⟨aa,.inr rfl⟩⟩
 .rintro ⟨b,ag,(⟨ae,h|h⟩|⟨ae,h⟩)⟩
  .exact .inl ⟨b,ag,by rw[if_pos ae,h]⟩
  .exact .inr ⟨b,b3.2 ⟨ag,ae⟩,h.symm⟩
  .exact .inl ⟨b,ag,by rw[ae,h];rfl⟩
def J2{m:Nat×Nat}{bs:List Nat}:(lK m bs).length=bs.length+(bs.filter (hS m)).length:=by
 unfold lK;simp
def YL{m:Nat×Nat}{bs:List Nat}(h:∀b∈bs,hS m b=false):lK m bs=bs:=by
 unfold lK;have I:bs.filter (hS m)=[]:=List.filter_eq_nil_iff.2 λb ag=>by rw[h b ag];simp
 rw[I,List.map_nil,List.append_nil]
 conv=>rhs;rw[<-List.map_id bs]
 exact List.map_congr_left λb ag=>by rw[h b ag];rfl
def aev(m:Nat×Nat)(b:Nat)(c:Nat):Prop:=(hS m b=true/\(c=b &&& m.2∨c=bF b m.2))∨(hS m b=false/\c=b)
def ace{m:Nat×Nat}{b c i:Nat}(h:aev m b c)(ad:c.testBit i=true):b.testBit i=true:=by
 rcases h with⟨_,rfl|rfl⟩|⟨_,rfl⟩
 .rw [aA,aM]at ad;exact ad.1
 .rw [fa,aM]at ad;exact ad.1
 .exact ad
def Uk{rest:Nat}{bs:List Nat}(h:hI rest bs){a b i:Nat}(aC:a∈bs)(ag:b∈bs)(I:a.testBit i=true)(aa:b.testBit i=true):a=b:=by
 refine Classical.byContradiction λcI=>?_;have af:=h.wW;have key:∀{l:List Nat},l.Pairwise (λa b=>a &&& b=0)->a∈l->b∈l->a &&& b=0:=by
  intro l af
  induction af with
  |nil=>intro h;cases h
  | @cons x l U _ aN=>
   intro aC ag;rcases cc.1 aC with I|I<;>rcases cc.1 ag with aa|aa
   .exact absurd (I.trans aa.symm) cI
   .rw [I];exact U _ aa
   .rw [aa,Nat.and_comm];exact U _ I
   .exact aN I aa
 have:=kJ.1 (key af aC ag) i I;rw[aa]at this;cases this
def hI.split{rest:Nat}{bs:List Nat}(h:hI rest bs)(m:Nat×Nat):hI rest (lK m bs):=by
 constructor
 .intro c ad;obtain⟨b,ag,aU⟩:=zI.1 ad;rcases aU with⟨ae,rfl|rfl⟩|⟨_,rfl⟩
  .exact (zP.1 ae).2.1
  .exact (zP.1 ae).2.2
  .exact h.ne _ ag
 .unfold lK;refine List.pairwise_append.2 ⟨?_,?_,?_⟩
  .refine cD.2 (h.wW.imp λ{a b} dH=>?_);rw[kJ]at dH⊢;intro i hi;have I:a.testBit i=true:=by
    split at hi
    .rw [aA,aM]at hi;exact hi.1
    .exact hi
   have aa:=dH i I
   split
   .rw [aA,aa];rfl
   .exact aa
  .refine cD.2 ((h.wW.filter _).imp λ{a b} dH=>?_);rw[kJ]at dH⊢;intro i hi;rw[fa,aM]at hi;rw[fa,dH i hi.1];rfl
  .intro c ad d ah;obtain⟨a,aC,rfl⟩:=cz.1 ad;obtain⟨b,ag,rfl⟩:=cz.1 ah;obtain⟨ag,ae⟩:=b3.1 ag;rw[kJ];intro i hi;cases ao:(bF b m.2).testBit i with
   |false=>rfl
   |true=>
    rw[fa,aM,cx]at ao;have ta:a.testBit i=true:=by
     split at hi
     .rw [aA,aM]at hi;exact hi.1
     .exact hi
    have:=Uk h aC ag ta ao.1;subst this;rw[if_pos ae,aA,aM]at hi;rw[hi.2]at ao;cases ao.2
 .intro i;rw[h.all i];constructor
  .rintro ⟨b,ag,hi⟩;cases ae:hS m b with
   |false=>exact⟨b,zI.2 ⟨b,ag,.inr ⟨ae,rfl⟩⟩,hi⟩
   |true=>
    cases hr:m.2.testBit i with
    |true=>exact⟨_,zI.2 ⟨b,ag,.inl ⟨ae,.inl rfl⟩⟩,by rw[aA,hi,hr];rfl⟩
    |false=>exact⟨_,zI.2 ⟨b,ag,.inl ⟨ae,.inr rfl⟩⟩,by rw[fa,hi,hr];rfl⟩
  .rintro ⟨c,ad,hi⟩;obtain⟨b,ag,aU⟩:=zI.1 ad;exact⟨b,ag,ace aU hi⟩
def hI.pass{rest:Nat}:∀{mv:List (Nat×Nat)}{bs:List Nat},hI rest bs->hI rest (mq mv bs)
 |[],_,h=>h
 |m::mv,bs,h=>(hI.pass (mv:=mv) (h.split m):hI rest (mq mv (lK m bs)))
def Gk{mv:List (Nat×Nat)}:∀{bs:List Nat},bs.length<=(mq mv bs).length:=by
 induction mv with
 |nil=>intro bs;exact Nat.le_refl _
 |cons m mv aN=>intro bs;exact Nat.le_trans (by rw[J2];omega) (aN (bs:=lK m bs))
def abi{mv:List (Nat×Nat)}:∀{bs:List Nat},(mq mv bs).length=bs.length->mq mv bs=bs/\∀m∈mv,∀b∈bs,hS m b=false:=by
 induction mv with
 |nil=>intro bs _;exact⟨rfl,by simp⟩
 |cons m mv aN=>
  intro bs h;have I:=Gk (mv:=mv) (bs:=lK m bs);have aa:=J2 (m:=m) (bs:=bs);have h:(mq mv (lK m bs)).length=bs.length:=h;have aO:(bs.filter (hS m)).length=0:=by omega
  have ae:∀b∈bs,hS m b=false:=λb ag=>by
   cases au:hS m b with
   |false=>rfl
   |true=>
    have:=b3.2 ⟨ag,au⟩;rw[List.length_eq_zero_iff.1 aO]at this;cases this
  have he:=YL ae;have:=aN (bs:=bs) (by rw[<-he];rw[he];rw[he]at h;exact h);refine⟨by show mq mv (lK m bs)=bs;rw[he];exact this.1,?_⟩;intro k4 e8 b ag;rcases cc.1 e8 with rfl|e8
  .exact ae b ag
  .exact this.2 k4 e8 b ag
def Gy:∀{n:Nat}{l:List Nat},l.Nodup->(∀x∈l,x<n)->l.length<=n
 |0,l,_,h=>by
  cases l with
  |nil=>exact Nat.le_refl _
  |cons x l=>exact absurd (h x (by simp)) (by omega)
 |n+1,l,ao,h=>by
  have I:=Gy (n:=n) (l:=l.filter λx=>x != n) (ao.filter _) λx U=>by
   obtain⟨U,cI⟩:=b3.1 U;have:=h x U;have:x≠n:=by simpa using cI
   omega
  have aa:(l.filter λx=>x != n).length+l.count n=l.length:=by
   clear h I ao
   induction l with
   |nil=>rfl
   |cons x l aN=>
    by_cases U:x=n
    .subst U;simp;omega
    .simp [U];omega
  have aB:l.count n<=1:=List.nodup_iff_count.1 ao n;omega
def hI.len{rest n:Nat}{bs:List Nat}(h:hI rest bs)(hr:rest<2^n):bs.length<=n:=by
 have hex:∀b∈bs,∃i,b.testBit i=true:=λb ag=>Uu (h.ne b ag);obtain⟨f,hf⟩:∃f:Nat->Nat,∀b∈bs,b.testBit (f b)=true:=⟨open Classical in λb=>if h:∃i,b.testBit i=true then h.choose else 0,λb ag=>by
  have au:=hex b ag
  dsimp only;rw[dif_pos au];exact au.choose_spec⟩
 have bU:∀b∈bs,f b<n:=λb ag=>lN.1 hr _ ((h.all _).2 ⟨b,ag,hf b ag⟩);have l6:(bs.map f).Nodup:=by
  refine cD.2 ?_;have:bs.Pairwise λa b=>a∈bs/\b∈bs/\a &&& b=0:=List.Pairwise.imp_of_mem (λaC ag h=>⟨aC,ag,h⟩) h.wW;refine this.imp λ{a b} ⟨aC,ag,aO⟩ he=>?_;have I:=hf a aC;have:=kJ.1 aO _ I;rw[he,hf b ag]at this;cases this
 have:=Gy l6 (n:=n) λx U=>by
  obtain⟨b,ag,rfl⟩:=cz.1 U;exact bU b ag
 simpa using this
def wK(mv:List (Nat×Nat))(bs:List Nat):Prop:=∀m∈mv,∀b∈bs,hS m b=false
def KN{mv:List (Nat×Nat)}{rest n:Nat}(hr:rest<2^n):∀{k:Nat}{bs:List Nat},hI rest bs->n<k+bs.length->hI rest (sH mv k bs)/\wK mv (sH mv k bs)
 |0,bs,h,aj=>absurd (h.len hr) (by omega)
 |k+1,bs,h,aj=>by
  simp only[sH]
  split
  .rename_i he;obtain⟨I,aa⟩:=abi he;rw[I];exact⟨h,aa⟩
  .rename_i he;have:=Gk (mv:=mv) (bs:=bs);exact KN hr h.pass (by omega)
section
variable{ρ:Type}(T:ρ->Prop)(A:ρ->ρ->Prop)(eq:ρ->ρ->Nat->Prop)(n:Nat)
def pn(Y:Nat):Prop:=∀r s,T r->T s->A r s->∃u,T u/\A u s/\A r u/\(∀i,i<n->Y.testBit i=true->eq u r i)/\(∀i,i<n->Y.testBit i=false->eq u s i)
def Dx(m:Nat×Nat):Prop:=∀r s,T r->T s->(∀i,i<n->m.1.testBit i=true->eq r s i)->∃u,T u/\(∀i,i<n->(m.1 ||| m.2).testBit i=true->eq u r i)/\(∀i,i<n->(m.1 ||| m.2).testBit i=false->eq u s i)
structure AA:Prop where
 refl:∀r i,eq r r i
 symm:∀{r s i},eq r s i->eq s r i
 trans:∀{r s t i},eq r s i->eq s t i->eq r t i
variable{T A eq n}
def Rn(he:AA eq){x:Nat}(c2:∀r s,A r s↔∀i,i<n->x.testBit i=true->eq r s i){b:Nat}{m:Nat×Nat}(VU:b &&& x=0)(ag:pn T A eq n b)(hm:Dx T eq n m)(aO:b &&& m.1=0):pn T A eq n (b &&& m.2)/\pn T A eq n (bF b m.2):=by
 have first:pn T A eq n (b &&& m.2):=by
  intro r s hr ae aC;obtain⟨k7,I,_,_,aW,bO⟩:=ag r s hr ae aC;obtain⟨u,b9,k2,gY⟩:=hm k7 s I ae λi hi hl=>bO i hi (by
   cases g8:b.testBit i with
   |false=>rfl
   |true=>rw[kJ.1 aO i g8]at hl;cases hl)
  have ch:∀i,i<n->(b &&& m.2).testBit i=true->eq u r i:=λi hi au=>by
   rw[aA,aM]at au;exact he.trans (k2 i hi (by rw[b5,au.2];simp)) (aW i hi au.1)
  have pJ:∀i,i<n->(b &&& m.2).testBit i=false->eq u s i:=λi hi au=>by
   cases hl:(m.1 ||| m.2).testBit i with
   |false=>exact gY i hi hl
   |true=>
    refine he.trans (k2 i hi hl) (bO i hi ?_);cases g8:b.testBit i with
    |false=>rfl
    |true=>
     have I:=kJ.1 aO i g8;rw[aA,g8,cT]at au;rw[b5,I,au]at hl;cases hl
  have U:∀i,i<n->x.testBit i=true->eq u s i:=λi hi au=>pJ i hi (by
   cases g8:b.testBit i with
   |false=>rw[aA,g8];rfl
   |true=>rw[kJ.1 VU i g8]at au;cases au)
  exact⟨u,b9,(c2 _ _).2 U,(c2 _ _).2 λi hi au=>he.trans ((c2 _ _).1 aC i hi au) (he.symm (U i hi au)),ch,pJ⟩
 refine⟨first,?_⟩;intro r s hr ae aC;obtain⟨k7,I,aa,aB,aW,bO⟩:=ag r s hr ae aC;have Oi:A s k7:=(c2 _ _).2 λi hi au=>he.symm ((c2 _ _).1 aa i hi au);obtain⟨u,b9,k2,gY,nn,Bp⟩:=first s k7 ae I Oi
 have pJ:∀i,i<n->(bF b m.2).testBit i=false->eq u s i:=λi hi au=>by
  cases ad:(b &&& m.2).testBit i with
  |true=>exact nn i hi ad
  |false=>
   refine he.trans (Bp i hi ad) (bO i hi ?_);cases g8:b.testBit i with
   |false=>rfl
   |true=>
    rw[fa,g8]at au;rw[aA,g8]at ad;cases amq:m.2.testBit i<;>simp_all
 have U:∀i,i<n->x.testBit i=true->eq u s i:=λi hi au=>pJ i hi (by
  cases g8:b.testBit i with
  |false=>rw[fa,g8];rfl
  |true=>rw[kJ.1 VU i g8]at au;cases au)
 refine⟨u,b9,(c2 _ _).2 U,(c2 _ _).2 λi hi au=>he.trans ((c2 _ _).1 aC i hi au) (he.symm (U i hi au)),λi hi au=>?_,pJ⟩;rw[fa,aM,cx]at au;exact he.trans (Bp i hi (by rw[aA,au.2,Bool.and_false])) (aW i hi au.1)
def YE(he:AA eq){x:Nat}(c2:∀r s,A r s↔∀i,i<n->x.testBit i=true->eq r s i){m:Nat×Nat}(hm:Dx T eq n m){bs:List Nat}(U:∀b∈bs,b &&& x=0)(ag:∀b∈bs,pn T A eq n b):∀c∈lK m bs,pn T A eq n c:=by
 intro c ad;obtain⟨b,I,aU⟩:=zI.1 ad;rcases aU with⟨ae,rfl|rfl⟩|⟨_,rfl⟩
 .exact (Rn he c2 (U b I) (ag b I) hm (zP.1 ae).1).1
 .exact (Rn he c2 (U b I) (ag b I) hm (zP.1 ae).1).2
 .exact ag _ I
def Ky(he:AA eq){x rest:Nat}(c2:∀r s,A r s↔∀i,i<n->x.testBit i=true->eq r s i)(oP:rest &&& x=0):∀{mv:List (Nat×Nat)},(∀m∈mv,Dx T eq n m)->∀{bs:List Nat},hI rest bs->(∀b∈bs,pn T A eq n b)->∀c∈mq mv bs,pn T A eq n c
 |[],_,_,_,h=>h
 |m::mv,hm,bs,af,h=>Ky he c2 oP (λk4 da=>hm k4 (bL _ da)) (af.split m) (YE he c2 (hm m (by simp)) (λb ag=>by
   rw[kJ]at oP⊢;intro i hi
   exact oP i ((af.all i).2 ⟨b,ag,hi⟩)) h)
def QS(he:AA eq){x rest:Nat}(c2:∀r s,A r s↔∀i,i<n->x.testBit i=true->eq r s i)(oP:rest &&& x=0){mv:List (Nat×Nat)}(hm:∀m∈mv,Dx T eq n m):∀{k:Nat}{bs:List Nat},hI rest bs->(∀b∈bs,pn T A eq n b)->∀c∈sH mv k bs,pn T A eq n c
 |0,_,_,h=>h
 |k+1,bs,af,h=>by
  simp only[sH]
  split
  .exact Ky he c2 oP hm af h
  .exact QS he c2 oP hm af.pass (Ky he c2 oP hm af h)
def Ro(he:AA eq){x:Nat}(c2:∀r s,A r s↔∀i,i<n->x.testBit i=true->eq r s i)(P:Nat->Bool):∀{bs:List Nat},(∀b∈bs,pn T A eq n b)->∃z:Nat,pn T A eq n z/\∀i,z.testBit i=true↔∃b∈bs,b.testBit i=true/\P b=true
 |[],_=>⟨0,λr s hr ae aC=>⟨s,ae,(c2 _ _).2 (λi _ _=>he.refl s i),aC,λi _ h=>(by rw[bB]at h;cases h),λi _ _=>he.refl s i⟩,λi=>by simp⟩
 |b::bs,h=>by
  obtain⟨z,I,aa⟩:=Ro he c2 P λb ag=>h b (bL _ ag);cases af:P b with
  |false=>
   refine⟨z,I,λi=>?_⟩;rw[aa i];constructor
   .rintro ⟨c,ad,au⟩;exact⟨c,bL _ ad,au⟩
   .rintro ⟨c,ad,au⟩;rcases cc.1 ad with rfl|ad
    .rw [af]at au;cases au.2
    .exact ⟨c,ad,au⟩
  |true=>
   refine⟨z ||| b,?_,λi=>?_⟩
   .intro r s hr ae aC;obtain⟨t,a2,bA,a3,a4,cj⟩:=I r s hr ae aC;obtain⟨u,cF,ck,dG,fh,e0⟩:=h b (by simp) r t hr a2 a3;refine⟨u,cF,(c2 _ _).2 λi hi au=>he.trans ((c2 _ _).1 ck i hi au) ((c2 _ _).1 bA i hi au),dG,λi hi au=>?_,λi hi au=>?_⟩
    .cases g8:b.testBit i with
     |true=>exact fh i hi g8
     |false=>
      rw[b5,g8,Bool.or_false]at au;exact he.trans (e0 i hi g8) (a4 i hi au)
    .rw [b5,Bool.or_eq_false_iff]at au;exact he.trans (e0 i hi au.2) (cj i hi au.1)
   .rw [b5,Bool.or_eq_true,aa i];constructor
    .rintro (⟨c,ad,au⟩|au)
     .exact ⟨c,bL _ ad,au⟩
     .exact ⟨b,by simp,au,af⟩
    .rintro ⟨c,ad,au⟩;rcases cc.1 ad with rfl|ad
     .exact .inr au.1
     .exact .inl ⟨c,ad,au⟩
end
end Go.aS
