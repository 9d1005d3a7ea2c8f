/- What the functions answer. No conditions. -/
import Derived.Test.YtcbhcnkfefbddaaGreatDoorTopMultivaluedLaw14
import Derived.Test.YtcbhcnkfefbddaaGreatDoorTopMultivaluedLaw7
import Derived.Test.YtcbhcnkfefbddaaGreatDoorTopMultivaluedLaw10
set_option linter.all false
open List renaming mem_of_getElem?->aA,mem_map->aQ,getElem?_eq_some_iff->ba,getElem?_of_mem->bo,mem_singleton->bB,take_of_length_le->bL,getElem?_set_self->b3,getElem?_eq_none->cc,getElem?_eq_getElem->cu,take_add_one->cx,getElem?_map->cA,length_map->cT,getElem?_set_ne->dR,mem_append->eW,all_eq_true->gj,length_append->gC,ext_getElem?->gD,length_singleton->hb,length_cons->hP,map_congr_left->hQ,getElem_mem->hR,mem_range->jr,mem_append_left->mS,map_map->kH,append_assoc->mi,nodup_append->nA,map_append->su,length_nil->vK,append_nil->vL
open Nat renaming lt_of_lt_of_le->aM,pow_le_pow_right->a6,zero_testBit->cz,not_lt_zero->dn,le_refl->du,testBit_xor->eb,or_lt_two_pow->fx,eq_of_testBit_eq->fB,testBit_or->fW,lt_of_le_of_lt->hc,testBit_lt_two_pow->ie,testBit_two_pow_sub_one->hq,testBit_and->kf,lt_of_le_of_ne->lI,pow_pos->q8,zero_le->sv,and_le_right->tQ,div_eq_of_lt->tR,strongRecOn->vM
open Bool renaming false_eq_true->b5,false_ne_true->fR,and_eq_true->hF,eq_iff_iff->ig,or_eq_true->iZ
open Int renaming toNat_natCast->cD
open Option renaming toList_some->c_
namespace Go.aS
def im(n:Nat)(L:List jj):List bC:=L.map λx=>{ bX:=((bh x.L &&& (2^n-1):Nat):Int),bZ:=((bh x.R &&& (2^n-1):Nat):Int) }
def ye(L:List jj):Prop:=∀x∈L,(0<=x.L/\x.L<256)/\0<=x.R/\x.R<256
def TP{x:Int}(h:0<=x/\x<256){n:Nat}(ao:n<=16):dW .u32 (IntKind.wrap .u32 x) ((2^n-1:Nat):Int)=((bh x &&& (2^n-1):Nat):Int):=by
 have af:=Ax ao;have e:x=((bh x:Nat):Int):=by unfold bh;omega
 have a5:IntKind.wrap .u32 x=((bh x:Nat):Int):=by
  conv=>lhs;rw[e]
  exact nD (k:=.u32) (by simp only[top];unfold bh;omega)
 rw[a5];exact sC (k:=.u32) (by simp only[top];unfold bh;omega) (by simp only[top];omega)
def wb{x n:Nat}:x &&& (2^n-1)<2^n:=by
 have:=tQ (n:=x) (m:=2^n-1);have:0<2^n:=q8 (by omega);omega
def si.bp{n:Nat}{L:List jj}(ao:n<=16)(cq:ye L)(hlen:L.length<=4000000):si.C n L (im n L):=by
 obtain⟨r,I,aa⟩:=si.bj n L (λr=>r=im n L) (by
  refine⟨_,aa2 ao,?_⟩;have:∀(r:List jj)(k:Nat),L.drop k=r->k<=L.length->si.aJ L ((2^n-1:Nat):Int) (im n (L.take k)) k (λr=>r=im n L):=by
   intro r
   induction r with
   |nil=>
    intro k ah aj;have:=gd ah;apply si.bE;rw[if_neg (by omega),bL (by omega)]
   |cons x r aN=>
    intro k ah aj;have bU:=gl ah;have U:=cq x (aA (eO ah));have next:=aN (k+1) (e4 ah) (by omega);rw[cx,eO ah,c_]at next;unfold im at next;rw[su,List.map_cons,List.map_nil]at next;apply si.bE;rw[if_pos (by omega)];refine⟨x,jW ah,?_⟩;rw[TP U.1 ao,TP U.2 ao,dx (by omega)];exact⟨by unfold im;rw[cT,List.length_take];omega,next⟩
  exact this L 0 rfl (sv _))
 rw[<-I];exact aa
def lT(N:Int):Nat:=(N%7).toNat
def GL{N:Int}:lT N<=6:=by unfold lT;omega
def B2.bp{d:AM}(eL:0<=d.N/\d.N<256)(cq:ye d.L)(hlen:d.L.length<=4000000):B2.C d (((lT d.N:Nat):Int),im (lT d.N) d.L,decide ((d.L.length:Int)<=6)):=by
 obtain⟨r,I,aa⟩:=B2.bj d (λr=>r=(((lT d.N:Nat):Int),im (lT d.N) d.L,decide ((d.L.length:Int)<=6))) (by
  have e:aV (Int.tmod d.N 7)=((lT d.N:Nat):Int):=by
   rw[Int.tmod_eq_emod_of_nonneg eL.1];have:d.N%7=((lT d.N:Nat):Int):=by unfold lT;omega
   rw[this];exact nD (k:=.i64) (by simp only[top];have:=GL (N:=d.N);omega)
  rw[e]
  exact⟨_,si.bp (by have:=GL (N:=d.N);omega) cq hlen,rfl⟩)
 rw[<-I];exact aa
def Ls:∀(es:List (List D)),es.length<=ss es
 |[]=>du _
 |x::r=>by simp only[ss,hP];have:=Ls r;omega
def TO{n:Nat}{L:List jj}(ao:n<=16):po (im n L):=λd ah=>by
 obtain⟨x,_,rfl⟩:=aQ.1 ah;have af:=Ax ao;exact⟨dz.of (aM wb (by omega)),dz.of (aM wb (by omega))⟩
def CS{n:Nat}{L:List jj}:(im n L).length=L.length:=by simp[im]
def ab4{n:Nat}{L:List jj}(ao:n<=6)(hl:L.length<=6):HS (n:Int) (im n L)=0:=by
 have aO:ko (n:Int) (im n L)=0:=by
  unfold ko;rw[if_neg (by omega),if_neg (by rw[CS];omega),if_pos];rw[gj];intro d ah;obtain⟨x,_,rfl⟩:=aQ.1 ah;unfold gX;rw[kO,kO,cD,decide_eq_true wb,decide_eq_true wb];rfl
 unfold HS;rw[if_pos aO,if_neg (by omega)]
structure hJ(n:Nat)(fds:List bC)(aR:List br):Prop where
 nr:n<=6
 qB:po fds
 vp:rq aR
 f64:fds.length<=64
 m64:aR.length<=64
def mZ(n x:Nat):Nat:=bF (2^n-1) x
def acH{n:Nat}(ao:n<=16):2^n-1<2^32:=aM (Nat.sub_lt (q8 (by omega)) (by omega)) (a6 (by omega) (by omega))
def GD{n x:Nat}(ao:n<=16):mZ n x<2^n:=hc oq (Nat.sub_lt (q8 (by omega)) (by omega))
def Ll{n x:Nat}(ao:n<=16):mZ n x<2^32:=aM (GD ao) (a6 (by omega) (by omega))
def LV{n x:Nat}(ao:n<=6):mZ n x<2^6:=aM (GD (by omega)) (a6 (by omega) (by omega))
def ad_{n x:Nat}:mZ n x &&& x=0:=kJ.2 λi hi=>by
 unfold mZ at hi;rw[fa,hF,Bool.not_eq_true']at hi;exact hi.2
def bd(n:Nat)(fds:List bC)(aR:List br)(x:Nat):List Nat:=m_ (fds.map gV) (aR.map en) (mZ n x)
structure lQ(n:Nat)(fds:List bC)(aR:List br)(x live:Nat)(R:List Nat):Prop where
 rows:nG (fds.map gV) (bd n fds aR x) (mZ n x) live R
 done:yp (fds.map gV) (aR.map en) λu=>u∈R
section
variable{n x:Nat}{fds:List bC}{aR:List br}
def hJ.part(h:hJ n fds aR):hI (mZ n x) (bd n fds aR x):=(La (Ll (by have:=h.nr;omega))).1
def hJ.fin(h:hJ n fds aR):wK (qh (fds.map gV) (aR.map en)) (bd n fds aR x):=(La (Ll (by have:=h.nr;omega))).2
def aaO{R:List Nat}(I:∀d∈fds,GX (gV d) R)(aa:∀m∈aR,LZ (en m) R):yp (fds.map gV) (aR.map en) λu=>u∈R where
 fd d ah r s hr ae aC:=by obtain⟨f,hf,rfl⟩:=aQ.1 ah;exact I f hf r s hr ae aC
 mv m hm r s hr ae aC:=by obtain⟨f,hf,rfl⟩:=aQ.1 hm;exact aa f hf r s hr ae aC
def ox(live:Nat)(R:List Nat):Nat:=live*65+(64-R.length)
def lQ.lt{live:Nat}{R:List Nat}(h:lQ n fds aR x live R)(ao:n<=6){r:Nat}(hr:r∈R):r<2^n:=h.rows.lt (GD (by omega)) hr
def lQ.akM{live:Nat}{R:List Nat}(h:lQ n fds aR x live R)(ao:n<=6):live<2^n:=h.lt ao h.rows.2.top
def lQ.len{live:Nat}{R:List Nat}(h:lQ n fds aR x live R)(ao:n<=6):R.length<=64:=h.rows.len (LV ao)
def hJ.f32(h:hJ n fds aR):∀d∈fds.map gV,d.2<2^32:=λd ah=>by
 obtain⟨f,hf,rfl⟩:=aQ.1 ah;exact(h.qB f hf).2.lt
def lW(n:Nat)(fds:List bC)(aR:List br)(x y:Nat):Bool:=(bd n fds aR x).all λb=>decide (b &&& y=0) || decide (bF b y=0)
def Tg{y:Nat}:lW n fds aR x y=true↔∀b∈bd n fds aR x,b &&& y=0∨bF b y=0:=by
 unfold lW;rw[gj];exact forall_congr' λb=>forall_congr' λ_=>by rw[iZ,decide_eq_true_eq,decide_eq_true_eq]
def lQ.Na(h:hJ n fds aR){live y:Nat}{R:List Nat}(ad:lQ n fds aR x live R):bF live (x ||| y)∈R↔lW n fds aR x y=true:=by
 have ao:=h.nr;rw[Tg];exact QW (Ll (by omega)) ad_ h.f32 ad.rows.2 ad.done y
end
def DS(n:Int)(l:List bC)(m:List br)(a b:Int):Int:=if hy n l m=0 then(if gX n.toNat a b=true then 0 else 1)else hy n l m
def Ug{n:Int}{l:List bC}{m:List br}(h:hy n l m=0):0<=n/\n<=16:=by
 unfold hy at h
 split at h
 .rename_i aO;exact L6 aO
 .rename_i aO;exact absurd h aO
def vD.bp{n:Int}{l:List bC}{m:List br}{a b:Int}(hl:po l)(hm:rq m)(aC:dz a)(ag:dz b):vD.C n l m (eZ .u32 a b) (DS n l m a b):=by
 obtain⟨r,I,aa⟩:=vD.bj n l m (eZ .u32 a b) (λr=>r=DS n l m a b) (by
  refine⟨_,mN.bp hl hm,?_⟩;unfold DS;by_cases aO:hy n l m=0
  .rw [if_pos aO,if_pos aO];obtain⟨q,rfl⟩:∃q:Nat,n=q:=⟨n.toNat,by have:=Ug aO;omega⟩
   refine⟨by omega,?_⟩;have e:=Mg (n:=q) aC ag;rw[cD];by_cases h:gX q a b=true
   .rw [if_pos (e.2 h),if_pos h]
   .rw [if_neg (λaU=>h (e.1 aU)),if_neg h]
  .rw [if_neg aO,if_neg aO])
 rw[<-I];exact aa
def oW(l:List bC):List br:=l.map λd=>⟨d.bX,d.bZ⟩
def afQ{l:List bC}(h:po l):rq (oW l):=λd ah=>by
 obtain⟨x,U,rfl⟩:=aQ.1 ah;exact h x U
def sj.bp{n:Nat}{L:List jj}(ao:n<=16)(cq:ye L)(hlen:L.length<=4000000):sj.C n L (oW (im n L)):=by
 obtain⟨r,I,aa⟩:=sj.bj n L (λr=>r=oW (im n L)) (by
  refine⟨_,si.bp ao cq hlen,?_⟩;have amj:(im n L).length<=4000000:=by rw[CS];exact hlen
  generalize im n L=x at *;have go:∀(r:List bC)(k:Nat)(out:List br),x.drop k=r->out.length<=k->out++oW r=oW x->sj.aJ out x (k:Int) (λr=>r=oW x):=by
   intro r
   induction r with
   |nil=>
    intro k out ah aj h;have:=gd ah;apply sj.bE;rw[if_neg (by omega)];simpa[oW]using h
   |cons a r aN=>
    intro k out ah aj h;have bU:=gl ah;apply sj.bE;rw[if_pos (by omega)];refine⟨a,jW ah,by omega,?_⟩;rw[dx (by omega)];exact aN (k+1) _ (e4 ah) (by rw[gC];simp only[hP,vK];omega) (by rw[mi];exact h)
  exact go x 0 [] rfl (du 0) rfl)
 rw[<-I];exact aa
section
variable{n x:Nat}{fds:List bC}{aR:List br}
def qv(n:Nat)(fds:List bC)(aR:List br)(x:Nat):ay:=qY (ed (bd n fds aR x))
def hJ.U6(h:hJ n fds aR){b:Nat}(ag:b∈bd n fds aR x):b<2^n:=(h.part (x:=x)).lt (GD (by have:=h.nr;omega)) ag
def hJ.ns(h:hJ n fds aR):2^n<=2^32:=a6 (by omega) (by have:=h.nr;omega)
def hJ.agG(h:hJ n fds aR):pj (ed (bd n fds aR x)):=λy aw=>by
 obtain⟨b,ag,rfl⟩:=aQ.1 aw;exact dz.of (aM (h.U6 ag) h.ns)
def hJ.MP(h:hJ n fds aR){y:Int}:y∈qv n fds aR x↔∃b∈bd n fds aR x,y=(b:Int):=by
 unfold qv;rw[TA h.agG];unfold ed;rw[aQ];exact⟨λ⟨b,I,aa⟩=>⟨b,I,aa.symm⟩,λ⟨b,I,aa⟩=>⟨b,I,aa.symm⟩⟩
def hJ.agL(h:hJ n fds aR):(qv n fds aR x).length<=6:=by
 have I:=acE (l:=ed (bd n fds aR x));have aa:=(h.part (x:=x)).len (LV h.nr);rw[nJ]at I;unfold qv;omega
def rA(n:Nat)(fds:List bC)(aR:List br):Prop:=hy (n:Int) fds aR=0
def aaV{a b:Nat}(av:rA n fds aR)(aC:a<2^n)(ag:b<2^n):DS (n:Int) fds aR (a:Int) (b:Int)=0:=by
 unfold DS;have av:hy (n:Int) fds aR=0:=av;rw[if_pos av,if_pos];unfold gX;rw[kO,kO,cD,decide_eq_true aC,decide_eq_true ag];rfl
def vD.ak5(h:hJ n fds aR)(av:rA n fds aR){y:Nat}(U:x<2^n)(aw:y<2^n):vD.C n fds aR (eZ .u32 (x:Int) (y:Int)) 0:=by
 have:=vD.bp (n:=(n:Int)) h.qB h.vp (a:=(x:Int)) (b:=(y:Int)) (dz.of (aM U h.ns)) (dz.of (aM aw h.ns));rw[aaV av U aw]at this;exact this
def sn.ok(h:hJ n fds aR)(U:x<2^n):sn.C n (allI fds aR) x (qv n fds aR x):=
 sn.all (by have:=h.nr;omega) (aM U h.ns) h.qB h.vp h.f64 h.m64
def adf(h:hJ n fds aR){y:Nat}:(qv n fds aR x).all (λb=>decide (bh b &&& y=0) || decide (bF (bh b) y=0))=lW n fds aR x y:=by
 unfold lW;rw[ig,gj,gj];constructor
 .intro aU b ag;have:=aU (b:Int) (h.MP.2 ⟨b,ag,rfl⟩)
  rwa [kO]at this
 .intro aU z aG;obtain⟨b,ag,rfl⟩:=h.MP.1 aG;rw[kO];exact aU b ag
def oZ.bp(h:hJ n fds aR)(av:rA n fds aR){y:Nat}(U:x<2^n)(aw:y<2^n):oZ.C n fds aR ⟨x,y⟩ (lW n fds aR x y,0):=by
 obtain⟨r,I,aa⟩:=oZ.bj n fds aR ⟨x,y⟩ (λr=>r=(lW n fds aR x y,0)) ⟨_,vD.ak5 h av U aw,by
  rw[if_pos rfl];refine⟨_,qZ.bp h.qB h.f64 h.m64,_,sn.ok h U,?_⟩;have hlen:=h.agL (x:=x);rw[<-adf h];generalize ni:(λr:Bool×Int=>r=((qv n fds aR x).all (λb=>decide (bh b &&& y=0) || decide (bF (bh b) y=0)),(0:Int)))=J;have akt:J ((qv n fds aR x).all (λb=>decide (bh b &&& y=0) || decide (bF (bh b) y=0)),0):=by rw[<-ni]
  clear ni;refine KZ (l:=qv n fds aR x) (p:=λb=>decide (bh b &&& y=0) || decide (bF (bh b) y=0)) (L:=λi=>oZ.aJ ⟨x,y⟩ (qv n fds aR x) i J) (J:=λb=>J (b,(0:Int))) ?_ ?_ akt
  .intro aU;apply oZ.bE;rw[if_neg (by omega)];exact aU
  .intro k a aC aj aU;obtain⟨b,ag,rfl⟩:=h.MP.1 (aA aC);have VQ:=aM (h.U6 ag) h.ns;have Bm:=aM aw h.ns;rw[kO]at aU;apply oZ.bE;rw[if_pos (by omega)];refine⟨_,hG aC,?_⟩;have next:oZ.aJ ⟨x,y⟩ (qv n fds aR x) ((k+1:Nat):Int) J->oZ.bm ⟨x,y⟩ (qv n fds aR x) (k:Int) J:=λq=>by
    apply oZ.cU;rw[dx (by omega)];exact q
   show(if dW .u32 (b:Int) (y:Int)=0 then _ else _);rw[sC (hg VQ) (hg Bm)];by_cases I:b &&& y=0
   .rw [if_pos (by omega)];rw[if_pos (by simp[I])]at aU;exact next aU
   .rw [if_neg (by omega)];show(if fK .u32 (b:Int) (y:Int)=0 then _ else _);rw[sz (hg VQ) (hg Bm)];by_cases aa:bF b y=0
    .rw [if_pos (by omega)];rw[if_pos (by simp[aa])]at aU;exact next aU
    .rw [if_neg (by omega)];rw[if_neg (by simp[I,aa])]at aU
     exact aU⟩
 rw[<-I];exact aa
end
def ab_{n:Nat}{L:List jj}(ao:n<=6)(hl:L.length<=6):ko (n:Int) (im n L)=0:=by
 have:=aet (ab4 (n:=n) (L:=L) ao hl);exact this.2.2
def B3.exact{x:uS}(eL:0<=x.D.N/\x.D.N<256)(cq:ye x.D.L)(bW:ye x.M)(I:x.D.L.length<=4000000)(aa:x.M.length<=4000000):B3.C x (((lT x.D.N:Nat):Int),im (lT x.D.N) x.D.L,oW (im (lT x.D.N) x.M),decide (x.D.L.length<=6/\x.M.length<=4)):=by
 obtain⟨r,aT,a5⟩:=B3.bj x (λr=>r=(((lT x.D.N:Nat):Int),im (lT x.D.N) x.D.L,oW (im (lT x.D.N) x.M),decide (x.D.L.length<=6/\x.M.length<=4))) (by
  refine⟨_,B2.bp eL cq I,_,sj.bp (by have:=GL (N:=x.D.N);omega) bW aa,?_⟩;by_cases c7:x.D.L.length<=6
  .rw [if_pos (by show decide _=true;rw[decide_eq_true_eq];omega)];congr 3;rw[ig,decide_eq_true_eq,decide_eq_true_eq];omega
  .rw [if_neg (by show ¬decide _=true;rw[decide_eq_true_eq];omega)];congr 3
   rw[eq_comm,decide_eq_false_iff_not];omega)
 rw[<-aT];exact a5
def afP{n:Nat}{L M:List jj}(ao:n<=6)(hl:L.length<=6)(hm:M.length<=4):hJ n (im n L) (oW (im n M)) where
 nr:=ao
 qB:=TO (by omega)
 vp:=afQ (TO (by omega))
 f64:=by rw[CS];omega
 m64:=by unfold oW;rw[cT,CS];omega
def af0{n:Nat}{L M:List jj}(ao:n<=6)(hl:L.length<=6)(hm:M.length<=4):rA n (im n L) (oW (im n M)):=by
 unfold rA hy;rw[if_pos (ab_ ao hl),if_neg (by unfold oW;rw[cT,CS];omega),if_pos];rw[gj];intro d ah;obtain⟨f,hf,rfl⟩:=aQ.1 ah;obtain⟨z,_,rfl⟩:=aQ.1 hf;unfold gX;rw[kO,kO,cD,decide_eq_true wb,decide_eq_true wb];rfl
open Go.Sort
def Qb{x y:ay}(U:x.length<=1000)(aw:y.length<=1000):∃r,jm.C x y r/\(r<0↔il x y=true):=by
 obtain⟨r,I,aa⟩:=jm.bj x y (λr=>r<0↔il x y=true) (by
  have go:∀(p q:ay)(k:Nat),x.drop k=p->y.drop k=q->k<=x.length->k<=y.length->il p q=il x y->jm.aJ x y k λr=>r<0↔il x y=true:=by
   intro p
   induction p with
   |nil=>
    intro q k ah he kx akI h;have gz:=gd ah;apply jm.bE;rw[if_neg (by omega),<-h];have hl:q.length=y.length-k:=by rw[<-he,List.length_drop]
    cases q with
    |nil=>simp only[vK]at hl;rw[if_neg (by omega)];simp[il]
    |cons b q=>simp only[hP]at hl;rw[if_pos (by omega)];simp[il]
   |cons a p aN=>
    intro q k ah he kx akI h;have bU:=gl ah;apply jm.bE;rw[if_pos (by omega)];refine⟨a,jW ah,?_⟩;cases q with
    |nil=>
     have gz:=gd he;rw[if_pos (by omega),<-h];simp[il]
    |cons b q=>
     have Io:=gl he;rw[if_neg (by omega)];refine⟨b,jW he,_,Zi,?_⟩;simp only[il]at h;by_cases e:a=b
     .subst e;rw[if_pos rfl]at h;rw[if_pos (by unfold nY;simp),dx (by omega)];exact aN q (k+1) (e4 ah) (e4 he) (by omega) (by omega) h
     .rw [if_neg e]at h;rw[<-h,if_neg (show ¬nY a b=0 from λaU=>e (aaQ.1 aU))];unfold nY
      split
      .rename_i aB;simp[aB]
      .rename_i aB;rw[if_pos (by omega)];simp;omega
  exact go x y 0 rfl rfl (by omega) (by omega) rfl)
 exact⟨r,aa,I⟩
def tD.bp{n:Int}{l:aL}(hl:l.length<=100000)(af:∀x∈l,x.length<=1000):∃r,tD.C n l ⟨n,r⟩/\kU r/\∀x,x∈r↔x∈l:=by
 obtain⟨r,c,cF,ck⟩:=BI.bp (p:=λx=>x.length<=1000) (lt:=il) (λ_ _ U aw=>Qb U aw) abV (l:=l) (by omega) af;have hm:∀x,x∈r↔x∈l:=λx=>cF.mem_iff;obtain⟨b,k⟩:=Fa.bp (l:=r) (λx U=>af x ((hm x).1 U)) (by have:=cF.length_eq;omega);obtain⟨q,I,aa⟩:=tD.bj n l (λq=>q=⟨n,h4 r⟩) ⟨r,c,_,k,rfl⟩;subst I;exact⟨h4 r,aa,JR ck,λx=>by rw[FU,hm]⟩
def pX.bp{t:bT}(hl:t.Rows.length<=100000)(af:∀x∈t.Rows,x.length<=1000):pX.C t t:=by
 obtain⟨q,I,aa⟩:=pX.bj t (λq=>q=t) (by
  have go:∀(R:aL)(k:Nat)(acc:aL),t.Rows.drop k=R->acc.length=k->acc++R=t.Rows->pX.aJ t acc k λq=>q=t:=by
   intro R
   induction R with
   |nil=>
    intro k acc ah aC h;have gz:=gd ah;apply pX.bE;rw[if_neg (by omega)];rw[vL]at h;rw[h]
   |cons a R aN=>
    intro k acc ah aC h;have bU:=gl ah;have:=af a (aA (eO ah));apply pX.bE;rw[if_pos (by omega)];refine⟨a,jW ah,by omega,by omega,?_⟩;rw[dx (by omega)];exact aN (k+1) _ (e4 ah) (by simp[aC]) (by simpa using h)
  exact go t.Rows 0 [] rfl rfl rfl)
 rw[I]at aa;exact aa
def xA.bp{t:bT}{x:ay}(hl:t.Rows.length<=100000)(af:∀y∈t.Rows,y.length<=1000)(U:x.length<=1000):xA.C t x (decide (x∈t.Rows)):=by
 have one:∀y∈t.Rows,Je.C y x (decide (y=x)):=λy aw=>by
  obtain⟨q,I,aa⟩:=Je.bj y x (λq=>q=decide (y=x)) ⟨_,L5 (af y aw) U,rfl⟩;rw[<-I];exact aa
 obtain⟨q,I,aa⟩:=BN.bj t.Rows x (λq=>decide (0<=q)=decide (x∈t.Rows)) (by
  have go:∀(R:aL)(k:Nat),t.Rows.drop k=R->(x∈t.Rows↔x∈R)->BN.aJ t.Rows x k λq=>decide (0<=q)=decide (x∈t.Rows):=by
   intro R
   induction R with
   |nil=>
    intro k ah h;have gz:=gd ah;apply BN.bE;rw[if_neg (by omega),decide_eq_false (show ¬x∈t.Rows from λaU=>by have:=h.1 aU;cases this)];rfl
   |cons a R aN=>
    intro k ah h;have bU:=gl ah;apply BN.bE;rw[if_pos (by omega)];refine⟨a,jW ah,_,one a (aA (eO ah)),?_⟩
    split
    .rename_i e;have e:=of_decide_eq_true e;rw[decide_eq_true (h.2 (by simp[e])),decide_eq_true (by omega)]
    .rename_i e;have e:¬a=x:=by simpa using e
     rw[dx (by omega)];refine aN (k+1) (e4 ah) ?_;rw[h,List.mem_cons];exact⟨λaU=>aU.resolve_left (λa5=>e a5.symm),.inr⟩
  exact go t.Rows 0 rfl Iff.rfl)
 obtain⟨p,c5,eo⟩:=Ps.bj t.Rows x (λp=>p=decide (x∈t.Rows)) ⟨q,aa,I⟩;subst c5;obtain⟨p,c5,h9⟩:=xA.bj t x (λp=>p=decide (x∈t.Rows)) ⟨_,eo,rfl⟩;rw[<-c5];exact h9
def AI{s i:Nat}(ae:s<2^32):dW .u32 (ft .u32 (s:Int) (i:Int)) 1=1↔s.testBit i=true:=ac7 (k:=.u32) (by simpa[top]using ae) (by decide)
def lE.bp{n y r s l:Nat}(ao:n<=16)(hl:l<2^n):∃b,lE.C (dd n y r) (dd n y s) l b/\(b=true↔gf l r s):=by
 have vc:l<2^32:=aM hl (a6 (by decide) (by omega));obtain⟨q,I,aa⟩:=lE.bj (dd n y r) (dd n y s) l (λb=>b=true↔gf l r s) (by
  have go:∀(d k:Nat),d+k=n->(∀i,i<k->l.testBit i=true->r.testBit i=s.testBit i)->lE.aJ (dd n y r) (dd n y s) l k λb=>b=true↔gf l r s:=by
   intro d
   induction d with
   |zero=>
    intro k aj h;apply lE.bE;rw[lb,if_neg (by omega)];simp only[true_iff];intro i hi;by_cases ch:i<k
    .exact h i ch hi
    .rw [ie (aM hl (a6 (by decide) (by omega)))]at hi;cases hi
   |succ d aN=>
    intro k aj h;have next:(l.testBit k=true->r.testBit k=s.testBit k)->lE.bm (dd n y r) (dd n y s) l k λb=>b=true↔gf l r s:=λag=>by
     apply lE.cU;rw[dx (by omega)];refine aN (k+1) (by omega) λi hi Wr=>?_;by_cases e:i=k
     .subst e;exact ag Wr
     .exact h i (by omega) Wr
    apply lE.bE;rw[lb,if_pos (by omega)];refine⟨by omega,?_⟩
    split
    .rename_i ag;have ag:=(AI vc).1 ag;refine⟨_,hG (rh (by omega)),_,hG (rh (by omega)),?_⟩
     split
     .rename_i e;exact next λ_=>(vV (by omega)).1 e
     .rename_i e;simp only[b5,false_iff];exact λaU=>e ((vV (by omega)).2 (aU k ag))
    .rename_i ag;exact next λaU=>absurd ((AI vc).2 aU) ag
  exact go n 0 (by omega) (λi hi=>absurd hi (dn i)))
 exact⟨q,aa,I⟩
def pY.bp{n y r s:Nat}{m:Nat×Nat}(ao:n<=16)(hm:m.1 ||| m.2<2^n):pY.C (dd n y r) (dd n y s) ((m.1 ||| m.2:Nat):Int) (dd n y (gr m r s)):=by
 have vc:m.1 ||| m.2<2^32:=aM hm (a6 (by decide) (by omega))
 have cell:∀j,j<n->hU n y (gr m r s) j=if(m.1 ||| m.2).testBit j=true then hU n y r j else hU n y s j:=λj aH=>by
  split
  .rename_i h;exact(vV aH).2 (by rw[p8,if_pos h])
  .rename_i h;exact(vV aH).2 (by rw[p8,if_neg h])
 obtain⟨q,I,aa⟩:=pY.bj (dd n y r) (dd n y s) ((m.1 ||| m.2:Nat):Int) (λq=>q=dd n y (gr m r s)) ⟨by rw[lb];omega,by
  rw[lb];have go:∀(d k:Nat)(A:ay),d+k=n->A.length=n->(∀j,j<k->A[j]?=some (hU n y (gr m r s) j))->(∀j,k<=j->j<n->A[j]?=some (hU n y s j))->pY.aJ (dd n y r) ((m.1 ||| m.2:Nat):Int) A (n:Nat) k λq=>q=dd n y (gr m r s):=by
   intro d
   induction d with
   |zero=>
    intro k A aj c2 eU tf;apply pY.bE;rw[if_neg (by omega)];apply gD;intro j;by_cases aH:j<n
    .rw [eU j (by omega),rh aH]
    .rw [cc (by omega),cc (by rw[lb];omega)]
   |succ d aN=>
    intro k A aj c2 eU tf;apply pY.bE;rw[if_pos (by omega)];refine⟨by omega,?_⟩
    split
    .rename_i ag;have ag:=(AI vc).1 ag;refine⟨_,hG (rh (by omega)),_,hG (tf k (du _) (by omega)),?_⟩;apply pY.cU;rw[dx (by omega)];have e:b7 A (k:Int) (hU n y r k)=A.set k (hU n y r k):=by simp[b7]
     rw[e];refine aN (k+1) _ (by omega) (by simpa using c2) (λj aH=>?_) λj aH rU=>?_
     .by_cases e:j=k
      .subst e;rw[b3 (by omega),cell j (by omega),if_pos ag]
      .rw [dR (by omega)];exact eU j (by omega)
     .rw [dR (by omega)];exact tf j (by omega) rU
    .rename_i ag;have ag:¬(m.1 ||| m.2).testBit k=true:=λh=>ag ((AI vc).2 h);apply pY.cU;rw[dx (by omega)];refine aN (k+1) A (by omega) c2 (λj aH=>?_) λj aH rU=>tf j (by omega) rU;by_cases e:j=k
     .subst e;rw[tf j (du _) (by omega),cell j (by omega),if_neg ag]
     .exact eU j (by omega)
  exact go n 0 _ (by omega) lb (λj aH=>absurd aH (dn j)) λj _ aH=>rh aH⟩
 rw[<-I];exact aa
section
variable{n y:Nat}
def ZU{M:aL}{k i r:Nat}{a b:Int}(ao:n<=16)(hi:i<n)(aj:M[k]?=some (dd n y r))(Ir:imax a b=q3 n y i)(N1:tt a b=(i:Int)){ax bb:Int}{r1:bT}{r2:ay}{q len:Int}{J:bT->Prop}
  (h:jP.bm ax bb r1 (M.set k (dd n y (bF r (2^i)))) a b r2 q len ((k+1:Nat):Int) J) (va:k+1<9223372036854775808):
  jP.cd ax bb r1 M a b k r2 q len k (n:Nat) 0 J:=by
 have NU:k<M.length:=(ba.1 aj).1;have ali:∀A:ay,A.length=n->(∀j,j<n->A[j]?=some (hU n y (bF r (2^i)) j))->A=dd n y (bF r (2^i)):=λA c2 h=>by
  apply gD;intro j;by_cases aH:j<n
  .rw [h j aH,rh aH]
  .rw [cc (by omega),cc (by rw[lb];omega)]
 have go:∀(d j:Nat)(A:ay),d+j=n->A.length=n->(∀c,c<j->A[c]?=some (hU n y (bF r (2^i)) c))->(∀c,j<=c->c<n->A[c]?=some (hU n y r c))->jP.cd ax bb r1 (M.set k A) a b k r2 q len k (n:Nat) j J:=by
  intro d
  induction d with
  |zero=>
   intro j A aH c2 eU tf;apply jP.fp;refine⟨A,by rw[gP];exact b3 NU,?_⟩;rw[if_neg (by omega),dx (by omega)];rw[ali A c2 λc ad=>eU c (by omega)];exact h
  |succ d aN=>
   intro j A aH c2 eU tf;have next:∀A':ay,A'.length=n->A'[j]?=some (hU n y (bF r (2^i)) j)->(∀c,c≠j->A'[c]?=A[c]?)->jP.h5 ax bb r1 (M.set k A') a b k r2 q len k (n:Nat) j J:=λA' AW yY u3=>by
    apply jP.oB;refine⟨A',by rw[gP];exact b3 NU,?_⟩;rw[dx (by omega)];refine aN (j+1) A' (by omega) AW (λc ad=>?_) λc ad aiD=>?_
    .by_cases e:c=j
     .subst e;exact yY
     .rw [u3 c e];exact eU c (by omega)
    .rw [u3 c (by omega)];exact tf c (by omega) aiD
   apply jP.fp;refine⟨A,by rw[gP];exact b3 NU,?_⟩;rw[if_pos (by omega)];refine⟨_,hG (tf j (du _) (by omega)),?_⟩;have rU:j<n:=by omega
   have ae:=CG (y:=y) rU;have aj3:=CG (y:=y) hi
   split
   .rename_i e;rw[Ir]at e;have Wj:j=i/\r.testBit j=true:=by
     unfold hU at e;cases ag:r.testBit j with
     |true=>rw[ag,if_pos rfl]at e;exact⟨acQ rU hi e,rfl⟩
     |false=>rw[ag,if_neg fR]at e;omega
    have aT:b7 (M.set k A) (k:Int) (b7 A (j:Int) (tt a b))=M.set k (A.set j (tt a b)):=by simp[b7]
    rw[aT];refine next _ (by simpa using c2) ?_ λc ad=>dR (λh=>ad h.symm);rw[b3 (by omega),N1];unfold hU;rw[if_neg (by rw[fa,Wj.1,rk];simp),Wj.1]
   .rename_i e;rw[Ir]at e;refine next A c2 ?_ λc _=>rfl;rw[tf j (du _) rU];congr 1;refine(vV rU).2 ?_;rw[fa,rk];by_cases iT:i=j
    .subst iT;have:r.testBit i=false:=by
      cases ag:r.testBit i with
      |false=>rfl
      |true=>exact absurd (by unfold hU;rw[if_pos ag]) e
     rw[this];rfl
    .rw [decide_eq_false iT];simp
 have:=go n 0 (dd n y r) (by omega) lb (λc ad=>absurd ad (dn c)) λc _ ad=>rh ad;have e:M.set k (dd n y r)=M:=by
  apply gD;intro j;rw[List.getElem?_set]
  split
  .rename_i aH;rw[<-aH,aj]
  .rfl
 rw[e]at this;exact this
def ZT{R:List Nat}{i:Nat}{a b:Int}(ao:n<=16)(hi:i<n)(cQ:R.length<=1000)(Ir:imax a b=q3 n y i)(N1:tt a b=(i:Int)){ax bb:Int}{r1:bT}{r2:ay}{q:Int}{J:bT->Prop}
  (h:jP.fX ax bb r1 ((R.map λr=>bF r (2^i)).map (dd n y)) r2 q J):
  jP.bm ax bb r1 (R.map (dd n y)) a b r2 q (R.length:Nat) 0 J:=by
 have go:∀(d k:Nat),d+k=R.length->jP.bm ax bb r1 ((R.take k).map (λr=>dd n y (bF r (2^i)))++(R.drop k).map (dd n y)) a b r2 q (R.length:Nat) k J:=by
  intro d
  induction d with
  |zero=>
   intro k aj;apply jP.cU;rw[if_neg (by omega),bL (by omega),List.drop_eq_nil_iff.2 (by omega),List.map_nil,vL];rw[kH]at h;exact h
  |succ d aN=>
   intro k aj;have va:k<R.length:=by omega
   have ah:R.drop k=R[k]::R.drop (k+1):=List.drop_eq_getElem_cons va;have hlen:((R.take k).map λr=>dd n y (bF r (2^i))).length=k:=by simp;omega
   have ak:((R.take k).map (λr=>dd n y (bF r (2^i)))++(R.drop k).map (dd n y))[k]?=some (dd n y R[k]):=by
    rw[List.getElem?_append_right (by omega),hlen,Nat.sub_self,ah];rfl
   apply jP.cU;rw[if_pos (by omega)];refine⟨_,hG ak,?_⟩;rw[lb];refine ZU ao hi ak Ir N1 ?_ (by omega);have e:((R.take k).map (λr=>dd n y (bF r (2^i)))++(R.drop k).map (dd n y)).set k (dd n y (bF R[k] (2^i)))=(R.take (k+1)).map (λr=>dd n y (bF r (2^i)))++(R.drop (k+1)).map (dd n y):=by
    rw[List.set_append_right _ _ (by omega),hlen,Nat.sub_self,ah,List.map_cons,List.set_cons_zero,cx,cu va,c_,su,mi];rfl
   rw[e];exact aN (k+1) (by omega)
 have:=go R.length 0 (by omega);simpa using this
def jP.bp{R:List Nat}{t:bT}{l a b q0 q1:Nat}(ao:n<=16)(hl:l<2^n)(al:t.Rows=R.map (dd n y))(cQ:R.length<=1000)(aC:R[a]?=some q0)(ag:R[b]?=some q1):
  ∃rows,jP.C t (l:Int) (a:Int) (b:Int) ⟨t.bl,rows⟩/\kU rows/\∀z,z∈rows↔∃q∈R,z=dd n y (bF q ((q0 ^^^ q1) &&& l)):=by
 have vc:l<2^32:=aM hl (a6 (by decide) (by omega));have hlen:∀x∈t.Rows,x.length<=1000:=λx U=>by
  rw[al]at U;obtain⟨r,_,rfl⟩:=aQ.1 U;rw[lb];omega
 have cb:=xT (n:=l);obtain⟨r,⟨rows,rfl,aa,aB⟩,I⟩:=jP.bj t (l:Int) (a:Int) (b:Int) (λr=>∃rows,r=⟨t.bl,rows⟩/\kU rows/\∀z,z∈rows↔∃q∈R,z=dd n y (bF q ((q0 ^^^ q1) &&& l))) (by
  refine⟨t,pX.bp (by rw[al,cT];omega) hlen,_,sh.bp vc,?_⟩;rw[al];have go:∀(xs:List Nat)(k:Nat)(D:Nat),(fb l).drop k=xs->(∀j,D.testBit j=true↔j∈(fb l).take k/\q0.testBit j≠q1.testBit j) ->
    jP.aJ (a:Int) (b:Int) t ((R.map λr=>bF r D).map (dd n y)) ((fb l).map λ(i:Nat)=>(i:Int)) k λr=>∃rows,r=⟨t.bl,rows⟩/\kU rows/\∀z,z∈rows↔∃q∈R,z=dd n y (bF q ((q0 ^^^ q1) &&& l)):=by
   intro xs
   induction xs with
   |nil=>
    intro k D ah hB;have gz:=gd ah;rw[bL gz]at hB;have ag8:D=(q0 ^^^ q1) &&& l:=by
     apply fB;intro j;rw[kf,eb,ig,hB j,oj vc,hF];cases q0.testBit j<;>cases q1.testBit j<;>cases l.testBit j<;>simp
    obtain⟨rows,s1,s2,d_⟩:=tD.bp (n:=t.bl) (l:=(R.map λr=>bF r D).map (dd n y)) (by simp;omega) (λx U=>by
     obtain⟨r,_,rfl⟩:=aQ.1 U
     rw[lb];omega)
    apply jP.bE;rw[cT,if_neg (by omega)];refine⟨_,s1,rows,rfl,s2,λz=>?_⟩;rw[d_ z,kH,aQ,ag8];constructor
    .rintro ⟨q,au,rfl⟩;exact⟨q,au,rfl⟩
    .rintro ⟨q,au,rfl⟩;exact⟨q,au,rfl⟩
   |cons i xs aN=>
    intro k D ah hB;have bU:=gl ah;have ai2:=aA (eO ah);have rT:=(oj vc).1 ai2;have ch:i<n:=lN.1 hl i rT;have ajz:D.testBit i=false:=by
     cases au:D.testBit i with
     |false=>rfl
     |true=>
      have:=((hB i).1 au).1;have ae:=JM (n:=l);rw[<-List.take_append_drop k (fb l),List.pairwise_append,ah]at ae;exact absurd (ae.2.2 i this i (by simp)) (Nat.lt_irrefl i)
    have row:∀{c:Nat}{rc:Nat},R[c]?=some rc->a_ ((R.map λr=>bF r D).map (dd n y)) (c:Int)=some (dd n y (bF rc D)):=λ{c rc} ad=>by
     rw[gP,cA,cA,ad];rfl
    have AH:∀rc:Nat,(bF rc D).testBit i=rc.testBit i:=λrc=>by rw[fa,ajz];simp
    have XD:∀j,j∈(fb l).take (k+1)↔j∈(fb l).take k∨j=i:=λj=>by
     rw[cx,eO ah];simp
    apply jP.bE;rw[cT,if_pos (by omega)];refine⟨(i:Int),by rw[gP,cA,eO ah];rfl,_,row aC,_,hG (rh ch),_,row ag,_,hG (rh ch),?_⟩;have aj3:=CG (y:=y) ch
    split
    .rename_i e;have e:=(vV ch).1 e;rw[AH,AH]at e;apply jP.kT;rw[dx (by omega)];refine aN (k+1) D (e4 ah) λj=>?_;rw[hB j,XD j];constructor
     .exact λ⟨I,aa⟩=>⟨.inl I,aa⟩
     .rintro ⟨I|rfl,aa⟩
      .exact ⟨I,aa⟩
      .exact absurd e aa
    .rename_i e;have cI:q0.testBit i≠q1.testBit i:=λh=>e ((vV ch).2 (by rw[AH,AH,h]));have l5:imax (hU n y (bF q0 D) i) (hU n y (bF q1 D) i)=q3 n y i/\tt (hU n y (bF q0 D) i) (hU n y (bF q1 D) i)=(i:Int):=by
      unfold hU imax tt;rw[AH,AH];cases I:q0.testBit i<;>cases aa:q1.testBit i
      .rw [I,aa]at cI;exact absurd rfl cI
      .simp only[b5,if_false,if_true];constructor<;>split<;>omega
      .simp only[b5,if_false,if_true];constructor<;>split<;>omega
      .rw [I,aa]at cI;exact absurd rfl cI
     have:=ZT (R:=R.map λr=>bF r D) ao ch (by simpa using cQ) l5.1 l5.2 (ax:=a) (bb:=b) (r1:=t) (r2:=(fb l).map λ(i:Nat)=>(i:Int)) (q:=k) (J:=λr=>∃rows,r=⟨t.bl,rows⟩/\kU rows/\∀z,z∈rows↔∃q∈R,z=dd n y (bF q ((q0 ^^^ q1) &&& l))) (by
      apply jP.kT;rw[dx (by omega)];have a5:((R.map λr=>bF r D).map λr=>bF r (2^i))=R.map λr=>bF r (D ||| 2^i):=by
       rw[kH];refine hQ λr _=>?_;apply fB;intro j;simp only[Function.comp,fa,fW];cases r.testBit j<;>cases D.testBit j<;>cases(2^i).testBit j<;>rfl
      rw[a5];refine aN (k+1) _ (e4 ah) λj=>?_;rw[fW,iZ,hB j,rk,decide_eq_true_eq,XD j];constructor
      .rintro (⟨I,aa⟩|rfl)
       .exact ⟨.inl I,aa⟩
       .exact ⟨.inr rfl,cI⟩
      .rintro ⟨I|rfl,aa⟩
       .exact .inl ⟨I,aa⟩
       .exact .inr rfl)
     simpa using this
  have aO:(R.map λr=>bF r 0)=R:=by
   have:∀r,bF r 0=r:=λr=>by
    apply fB;intro j;rw[fa,cz];simp
   rw[hQ λr _=>this r,List.map_id']
  have:=go (fb l) 0 0 rfl λj=>by simp
  rw[aO]at this
  exact this)
 exact⟨rows,I,aa,aB⟩
end
def okF(d:bC)(a b:Nat):Prop:=gf (bh d.bX) a b->gf (bh d.bZ) a b
def E2(n y:Nat)(rows:aL)(m:br)(a b:Nat):Prop:=gf (bh m.bX) a b->dd n y (gr (en m) a b)∈rows
structure Ho(n:Nat)(fds:List bC)(aR:List br):Prop where
 f:∀d∈fds,dz d.bX/\dz d.bZ/\bh d.bX<2^n/\bh d.bZ<2^n
 m:∀d∈aR,dz d.bX/\dz d.bZ/\bh d.bX<2^n/\bh d.bZ<2^n
 aht:fds.length<=1000
 O2:aR.length<=1000
section
variable{n y:Nat}{R:List Nat}{t:bT}{fds:List bC}{aR:List br}(ao:n<=16)(H:Ho n fds aR)(al:t.Rows=R.map (dd n y))(cQ:R.length<=1000)
include ao H al cQ
def ir.bp{J:gh×Bool->Prop}
  (aj7:(∀d∈fds,∀a∈R,∀b∈R,okF d a b)->(∀m∈aR,∀a∈R,∀b∈R,E2 n y t.Rows m a b)->J (⟨false,0,0,0⟩,false))
  (A4:∀(f i j:Nat)(d:bC)(a b:Nat),fds[f]?=some d->R[i]?=some a->R[j]?=some b->gf (bh d.bX) a b->¬gf (bh d.bZ) a b->J (⟨false,f,i,j⟩,true))
  (N4:∀(f i j:Nat)(m:br)(a b:Nat),aR[f]?=some m->R[i]?=some a->R[j]?=some b->gf (bh m.bX) a b->dd n y (gr (en m) a b) ∉ t.Rows->J (⟨true,f,i,j⟩,true)):
  ∃r,J r/\ir.C t fds aR r:=by
 have hlen:t.Rows.length=R.length:=by rw[al,cT]
 have y8:∀x∈t.Rows,x.length<=1000:=λx U=>by
  rw[al]at U;obtain⟨r,_,rfl⟩:=aQ.1 U;rw[lb];omega
 have rQ:=H.aht;have A9:=H.O2;have row:∀{i a:Nat},R[i]?=some a->a_ t.Rows (i:Int)=some (dd n y a):=λ{i a} h=>by rw[al,gP,cA,h];rfl
 have pS:∀(Q:List br)(f:Nat),aR.drop f=Q->(∀m∈aR.take f,∀a∈R,∀b∈R,E2 n y t.Rows m a b)->(∀d∈fds,∀a∈R,∀b∈R,okF d a b)->ir.cd t aR f J:=by
  intro Q
  induction Q with
  |nil=>
   intro f ah hm hf;have gz:=gd ah;rw[bL gz]at hm;apply ir.fp;rw[if_neg (by omega)];exact aj7 hf hm
  |cons m Q aN=>
   intro f ah hm hf;have bU:=gl ah;have l5:=H.m m (aA (eO ah));have akN:∀(S:List Nat)(i:Nat),R.drop i=S->(∀a∈R.take i,∀b∈R,E2 n y t.Rows m a b)->ir.h5 t aR f m f i J:=by
    intro S
    induction S with
    |nil=>
     intro i hi u4;have gz:=gd hi;rw[bL gz]at u4;apply ir.oB;rw[hlen,if_neg (by omega),dx (by omega)];refine aN (f+1) (e4 ah) (λk4 e8=>?_) hf;rw[cx,eO ah,eW]at e8;rcases e8 with h|h
     .exact hm k4 h
     .simp only[c_,bB]at h;subst h;exact u4
    |cons a S OK=>
     intro i hi u4;have ajh:=gl hi;have akO:∀(uG:List Nat)(j:Nat),R.drop j=uG->(∀b∈R.take j,E2 n y t.Rows m a b)->ir.kj t aR f m i f i j J:=by
      intro uG
      induction uG with
      |nil=>
       intro j aH rP;have gz:=gd aH;rw[bL gz]at rP;apply ir.sR;rw[hlen,if_neg (by omega),dx (by omega)];refine OK (i+1) (e4 hi) λcp w8=>?_;rw[cx,eO hi,eW]at w8;rcases w8 with h|h
       .exact u4 cp h
       .simp only[c_,bB]at h;subst h;exact rP
      |cons b uG OL=>
       intro j aH rP;have aji:=gl aH;have next:E2 n y t.Rows m a b->ir.wO t aR f m i f i j J:=λcm=>by
        apply ir.Hu;rw[dx (by omega)];refine OL (j+1) (e4 aH) λiA mD=>?_;rw[cx,eO aH,eW]at mD;rcases mD with h|h
        .exact rP iA h
        .simp only[c_,bB]at h;subst h;exact cm
       obtain⟨q,b_,cM⟩:=lE.bp (n:=n) (y:=y) (r:=a) (s:=b) (l:=bh m.bX) ao l5.2.2.1;rw[<-l5.1.eq]at b_;apply ir.sR;rw[hlen,if_pos (by omega)];refine⟨_,row (eO hi),_,row (eO aH),q,b_,?_⟩
       split
       .rename_i au;have dB:=cM.1 au;have N2:=pY.bp (n:=n) (y:=y) (r:=a) (s:=b) (m:=en m) ao (fx l5.2.2.1 l5.2.2.2);have w3:eZ .u32 m.bX m.bZ=(((en m).1 ||| (en m).2:Nat):Int):=by
         conv=>lhs;rw[l5.1.eq,l5.2.1.eq]
         exact p9 l5.1.top l5.2.1.top
        refine⟨_,by rw[w3];exact N2,_,xA.bp (by omega) y8 (by rw[lb];omega),?_⟩
        split
        .rename_i ch;exact next λ_=>of_decide_eq_true ch
        .rename_i ch;exact N4 f i j m a b (eO ah) (eO hi) (eO aH) dB (by simpa using ch)
       .rename_i au;exact next λdB=>absurd (cM.2 dB) au
     apply ir.oB;rw[hlen,if_pos (by omega)];exact akO R 0 rfl (by simp)
   apply ir.fp;rw[if_pos (by omega)];exact⟨m,jW ah,akN R 0 rfl (by simp)⟩
 have f1:∀(Q:List bC)(f:Nat),fds.drop f=Q->(∀d∈fds.take f,∀a∈R,∀b∈R,okF d a b)->ir.aJ t fds aR f J:=by
  intro Q
  induction Q with
  |nil=>
   intro f ah hm;have gz:=gd ah;rw[bL gz]at hm;apply ir.bE;rw[if_neg (by omega)];exact pS aR 0 rfl (by simp) hm
  |cons d Q aN=>
   intro f ah hm;have bU:=gl ah;have jl:=H.f d (aA (eO ah));have f2:∀(S:List Nat)(i:Nat),R.drop i=S->(∀a∈R.take i,∀b∈R,okF d a b)->ir.bm t fds aR f d f i J:=by
    intro S
    induction S with
    |nil=>
     intro i hi u4;have gz:=gd hi;rw[bL gz]at u4;apply ir.cU;rw[hlen,if_neg (by omega),dx (by omega)];refine aN (f+1) (e4 ah) λbf l0=>?_;rw[cx,eO ah,eW]at l0;rcases l0 with h|h
     .exact hm bf h
     .simp only[c_,bB]at h;subst h;exact u4
    |cons a S OK=>
     intro i hi u4;have ajh:=gl hi;have f4:∀(uG:List Nat)(j:Nat),R.drop j=uG->(∀b∈R.take j,okF d a b)->ir.fX t fds aR f d i f i j J:=by
      intro uG
      induction uG with
      |nil=>
       intro j aH rP;have gz:=gd aH;rw[bL gz]at rP;apply ir.kT;rw[hlen,if_neg (by omega),dx (by omega)];refine OK (i+1) (e4 hi) λcp w8=>?_;rw[cx,eO hi,eW]at w8;rcases w8 with h|h
       .exact u4 cp h
       .simp only[c_,bB]at h;subst h;exact rP
      |cons b uG OL=>
       intro j aH rP;have aji:=gl aH;have next:okF d a b->ir.js t fds aR f d i f i j J:=λcm=>by
        apply ir.uH;rw[dx (by omega)];refine OL (j+1) (e4 aH) λiA mD=>?_;rw[cx,eO aH,eW]at mD;rcases mD with h|h
        .exact rP iA h
        .simp only[c_,bB]at h;subst h;exact cm
       obtain⟨q,b_,cM⟩:=lE.bp (n:=n) (y:=y) (r:=a) (s:=b) (l:=bh d.bX) ao jl.2.2.1;obtain⟨p,dk,ea⟩:=lE.bp (n:=n) (y:=y) (r:=a) (s:=b) (l:=bh d.bZ) ao jl.2.2.2;rw[<-jl.1.eq]at b_;rw[<-jl.2.1.eq]at dk;apply ir.kT;rw[hlen,if_pos (by omega)];refine⟨_,row (eO hi),_,row (eO aH),q,b_,?_⟩
       split
       .rename_i au;refine⟨p,dk,?_⟩
        split
        .rename_i af;exact next λ_=>ea.1 af
        .rename_i af;exact A4 f i j d a b (eO ah) (eO hi) (eO aH) (cM.1 au) λh=>af (ea.2 h)
       .rename_i au;exact next λdB=>absurd (cM.2 dB) au
     apply ir.cU;rw[hlen,if_pos (by omega)];exact f4 R 0 rfl (by simp)
   apply ir.bE;rw[if_pos (by omega)];exact⟨d,jW ah,f2 R 0 rfl (by simp)⟩
 exact ir.bj t fds aR J (f1 fds 0 rfl (by simp))
end
def SF{O:Type}[DecidableEq O]:∀{a b:List O},a.Nodup->(∀x∈a,x∈b)->a.length<=b.length
 |[],_,_,_=>by simp
 |x::a,b,aC,h=>by
  have w8:=List.nodup_cons.1 aC;have:=SF (a:=a) (b:=b.erase x) w8.2 λz aG=>(List.mem_erase_of_ne (λ(e:z=x)=>w8.1 (e ▸ aG))).2 (h z (by simp[aG]));rw[List.length_erase_of_mem (h x (by simp))]at this;have af:=List.length_pos_of_mem (h x (by simp));simp only[hP];omega
def kU.nodup{l:aL}(h:kU l):l.Nodup:=List.Pairwise.imp (λ{a b} dH e=>by rw[e,K2]at dH;cases dH) h
def Q3{O fc:Type}{f:fc->O}{P:fc->Prop}:∀{l:List O},(∀x∈l,∃r,P r/\x=f r)->∃R:List fc,l=R.map f/\∀r∈R,P r
 |[],_=>⟨[],rfl,by simp⟩
 |x::l,h=>by
  obtain⟨r,hr,rfl⟩:=h x (by simp);obtain⟨R,rfl,cQ⟩:=Q3 (l:=l) λz aG=>h z (by simp[aG]);exact⟨r::R,rfl,by simpa using⟨hr,cQ⟩⟩
def Us{m:Nat×Nat}{r s n:Nat}(hr:r<2^n)(ae:s<2^n):gr m r s<2^n:=fx (hc Nat.and_le_left hr) (hc oq ae)
def aef{a b c:Nat}(h:a ^^^ c=b ^^^ c):a=b:=by
 have:=congrArg (λz=>z ^^^ c) h;simpa[Nat.xor_assoc]using this
section
variable{n x y:Nat}{fds:List bC}{aR:List br}
def iO.rep{live:Nat}{T:Nat->Prop}{rows:aL}(h:iO n x y (fds.map gV) (aR.map en) live T rows)(ae:kU rows):∃R:List Nat,rows=R.map (dd n y)/\R.Nodup/\(∀r∈R,r<2^n)/\∀r,r∈R↔∃u,T u/\r=u ^^^ bF live (x ||| y):=by
 obtain⟨R,e,cQ⟩:=Q3 (f:=dd n y) (P:=λr=>∃u,T u/\r=u ^^^ bF live (x ||| y)) (l:=rows) λz aG=>by
  obtain⟨u,hu,rfl⟩:=(h.tab z).1 aG;exact⟨_,⟨u,hu,rfl⟩,rfl⟩
 have bU:∀r∈R,r<2^n:=λr hr=>by
  obtain⟨u,hu,rfl⟩:=cQ r hr;exact h.Jh hu
 refine⟨R,e,?_,bU,λr=>⟨cQ r,?_⟩⟩
 .have:=ae.nodup;rw[e]at this;exact(List.pairwise_map.1 this).imp λh e=>h (by rw[e])
 .rintro ⟨u,hu,rfl⟩;have hm:=(h.tab _).2 ⟨u,hu,rfl⟩;rw[e,aQ]at hm;obtain⟨r,hr,he⟩:=hm;rw[<-Lo (bU r hr) (h.Jh hu) he];exact hr
def iO.len{live:Nat}{T:Nat->Prop}{rows:aL}(h:iO n x y (fds.map gV) (aR.map en) live T rows)(ae:kU rows)(ao:n<=6):rows.length<=64:=by
 obtain⟨R,rfl,l6,bU,_⟩:=h.rep ae;rw[cT];have:=Gy l6 bU;have:2^n<=2^6:=a6 (by decide) ao;omega
variable(ao:n<=6)(H:Ho n fds aR)
include ao H
omit H in
def BG.bp{live:Nat}{T:Nat->Prop}{t:bT}(h:iO n x y (fds.map gV) (aR.map en) live T t.Rows)(ae:kU t.Rows){r:Nat}(hr:r<2^n)(kz:dd n y r ∉ t.Rows)(kr:∀rows:aL,kU rows->(∀z,z∈rows↔z∈t.Rows∨z=dd n y r)->rows.length<=64):
  ∃rows,BG.C t (dd n y r) (⟨t.bl,rows⟩,0)/\kU rows/\(∀z,z∈rows↔z∈t.Rows∨z=dd n y r)/\t.Rows.length<rows.length:=by
 have hl:=h.len ae ao;have y8:∀z∈t.Rows,z.length<=1000:=λz aG=>by
  obtain⟨u,_,rfl⟩:=(h.tab z).1 aG;rw[lb];omega
 obtain⟨rows,s1,s2,d_⟩:=tD.bp (n:=t.bl) (l:=t.Rows++[dd n y r]) (by simp;omega) (λz aG=>by
  rw[eW,bB]at aG;rcases aG with h|rfl
  .exact y8 z h
  .rw [lb];omega)
 have hm:∀z,z∈rows↔z∈t.Rows∨z=dd n y r:=λz=>by rw[d_ z];simp
 have ad:=kr rows s2 hm;have n7:t.Rows.length<rows.length:=by
  have:=SF (a:=t.Rows++[dd n y r]) (b:=rows) (by
   rw[nA];refine⟨ae.nodup,by simp,?_⟩;rintro a aC b ag rfl;rw[bB]at ag
   exact kz (ag ▸ aC)) λz aG=>(d_ z).2 aG
  simp only[gC,hb]at this;omega
 obtain⟨q,I,aa⟩:=BG.bj t (dd n y r) (λq=>q=(⟨t.bl,rows⟩,0)) ⟨t,pX.bp (by omega) y8,by omega,_,s1,by
  rw[if_neg (by simp only;omega)]⟩
 subst I;exact⟨rows,aa,s2,hm,n7⟩
def steps(af:hI (bF (2^n-1) x) (m_ (fds.map gV) (aR.map en) (bF (2^n-1) x)))(hf:wK (qh (fds.map gV) (aR.map en)) (m_ (fds.map gV) (aR.map en) (bF (2^n-1) x))){ab:bT}{J:List gh×bT×Int->Prop}
  (ni:∀(live:Nat)(T:Nat->Prop)(t:bT)(acc:List gh),iO n x y (fds.map gV) (aR.map en) live T t.Rows->kU t.Rows->yp (fds.map gV) (aR.map en) T->J (acc,t,0)):
  ∀(o7 live:Nat)(T:Nat->Prop)(t:bT)(acc:List gh),iO n x y (fds.map gV) (aR.map en) live T t.Rows->kU t.Rows->live*65+(64-t.Rows.length)<=o7->acc.length+o7<=10000->B7.aJ ab fds aR t acc J:=by
 intro o7
 induction o7 using vM with
 |_ o7 aN=>
 intro live T t acc h ae vj Nr;obtain⟨R,yA,l6,bU,s_⟩:=h.rep ae;have hl:=h.len ae ao;have VJ:R.length=t.Rows.length:=by rw[yA,cT]
 have ns:2^n<=2^32:=a6 (by decide) (by omega);apply B7.bE
 let off:=bF live (x ||| y)
 obtain⟨q,I,aa⟩:=ir.bp (n:=n) (y:=y) (R:=R) (t:=t) (fds:=fds) (aR:=aR) (by omega) H yA (by omega) (J:=λq=>if q.2=true then
   ∃dv:bT×Int,Fu.C t fds aR q.1 dv/\(if dv.2=0 then(acc.length+1)*32<=140737488355328/\B7.aJ ab fds aR dv.1 (acc++[q.1]) J else J ([],(⟨0,[]⟩:bT),dv.2))else J (acc,t,0))
  (by
   intro e2 bW;rw[if_neg (by decide)];refine ni live T t acc h ae ⟨λd ah r s hr ds aC=>?_,λm hm r s hr ds aC=>?_⟩
   .obtain ⟨f,A3,rfl⟩:=aQ.1 ah;have:=e2 f A3 _ ((s_ _).2 ⟨r,hr,rfl⟩) _ ((s_ _).2 ⟨s,ds,rfl⟩) (CR.2 aC);exact CR.1 this
   .obtain ⟨f,A3,rfl⟩:=aQ.1 hm;have ch:=bW f A3 _ ((s_ _).2 ⟨r,hr,rfl⟩) _ ((s_ _).2 ⟨s,ds,rfl⟩) (CR.2 aC);rw[Ua]at ch;obtain⟨u,hu,he⟩:=(h.tab _).1 ch;have:=Lo (Nat.xor_lt_two_pow (Us (h.lt hr) (h.lt ds)) h.Xc) (h.Jh hu) he
    rw[aef this];exact hu)
  (by
   intro f i j d a b ah aC ag dB ajs;rw[if_pos rfl];have jl:=H.f d (aA ah);obtain⟨xI,IE,ll⟩:=(s_ a).1 (aA aC);obtain⟨xJ,IF,uT⟩:=(s_ b).1 (aA ag);obtain⟨rows,cF,ck,dG⟩:=jP.bp (n:=n) (y:=y) (R:=R) (t:=t) (l:=bh d.bZ) (a:=i) (b:=j) (by omega) jl.2.2.2 yA (by omega) aC ag;rw[<-jl.2.1.eq]at cF;obtain⟨g,c5,eo⟩:=lE.bp (n:=n) (y:=y) (r:=a) (s:=b) (l:=bh d.bX) (by omega) jl.2.2.1;rw[<-jl.1.eq,eo.2 dB]at c5;obtain⟨dv,eK,nn⟩:=Fu.bj t fds aR ⟨false,f,i,j⟩ (λr=>r=(⟨t.bl,rows⟩,0)) ⟨dd n y a,by rw[yA,gP,cA,aC];rfl,dd n y b,by rw[yA,gP,cA,ag];rfl,by
    rw[if_neg fR]
    exact⟨d,hG ah,true,c5,by rw[if_pos rfl];exact⟨_,cF,rfl⟩⟩⟩
   subst eK;refine⟨_,nn,?_⟩;rw[if_pos rfl];refine⟨by omega,?_⟩;have hB:∀k,(((a ^^^ b) &&& bh d.bZ).testBit k=true↔(gV d).2.testBit k=true/\xI.testBit k≠xJ.testBit k):=λk=>by
    rw[kf,ll,uT,eb,eb,eb];show _↔(bh d.bZ).testBit k=true/\_;cases xI.testBit k<;>cases xJ.testBit k<;>cases(bF live (x ||| y)).testBit k<;>cases(bh d.bZ).testBit k<;>simp
   have da:=h.fd af hf (d:=gV d) (aQ.2 ⟨d,aA ah,rfl⟩) (aM jl.2.2.2 ns) IE IF (by rw[ll,uT]at dB;exact CR.1 dB) hB (Ca:=rows) (λz=>by
    rw[dG z];constructor
    .rintro ⟨q,au,rfl⟩;obtain⟨u,hu,rfl⟩:=(s_ q).1 au;exact⟨u,hu,rfl⟩
    .rintro ⟨u,hu,rfl⟩
     exact⟨_,(s_ _).2 ⟨u,hu,rfl⟩,rfl⟩)
   have pF:=da.len ck ao;have amp:bF live ((a ^^^ b) &&& bh d.bZ)<live:=by
    refine lI oq λhe=>ajs λk aj=>?_
    false_or_by_contra
    rename_i cI;have j9:((a ^^^ b) &&& bh d.bZ).testBit k=true:=(hB k).2 ⟨aj,λe=>cI (by rw[ll,uT,eb,eb,e])⟩;have Iv:=((hB k).1 j9).2;have rW:live.testBit k=true:=by
     cases au:xI.testBit k with
     |true=>exact h.ci.sub xI IE k au
     |false=>
      cases pK:xJ.testBit k with
      |true=>exact h.ci.sub xJ IF k pK
      |false=>rw[au,pK]at Iv;exact absurd rfl Iv
    have:=congrArg (λz=>z.testBit k) he;simp only[fa,j9,rW]at this;cases this
   exact aN (bF live ((a ^^^ b) &&& bh d.bZ)*65+(64-rows.length)) (by omega) _ _ ⟨t.bl,rows⟩ _ da ck (du _) (by simp only[gC,hb];omega))
  (by
   intro f i j m a b ah aC ag dB kz;rw[if_pos rfl];have jl:=H.m m (aA ah);obtain⟨xI,IE,ll⟩:=(s_ a).1 (aA aC);obtain⟨xJ,IF,uT⟩:=(s_ b).1 (aA ag);have ahe:gr (en m) a b=gr (en m) xI xJ ^^^ bF live (x ||| y):=by rw[ll,uT,Ua]
   have aip:gf (en m).1 xI xJ:=by rw[ll,uT]at dB;exact CR.1 dB
   have oQ:∀b∈m_ (fds.map gV) (aR.map en) (bF (2^n-1) x),hS (en m) b=false:=λb ag=>hf (en m) (mS _ (aQ.2 ⟨m,aA ah,rfl⟩)) b ag;have XX:∀rows:aL,(∀z,z∈rows↔z∈t.Rows∨z=dd n y (gr (en m) a b))->iO n x y (fds.map gV) (aR.map en) live (λu=>T u∨u=gr (en m) xI xJ) rows:=λrows IC=>h.mv af oQ IE IF aip λz=>by rw[IC z,ahe]
   obtain⟨rows,cF,ck,dG,fh⟩:=BG.bp (x:=x) (y:=y) ao h ae (Us (bU a (aA aC)) (bU b (aA ag)):gr (en m) a b<2^n) kz λrows s aG=>(XX rows aG).len s ao;have N2:=pY.bp (n:=n) (y:=y) (r:=a) (s:=b) (m:=en m) (by omega) (fx jl.2.2.1 jl.2.2.2);have w3:eZ .u32 m.bX m.bZ=(((en m).1 ||| (en m).2:Nat):Int):=by
    conv=>lhs;rw[jl.1.eq,jl.2.1.eq]
    exact p9 jl.1.top jl.2.1.top
   obtain⟨g,c5,eo⟩:=lE.bp (n:=n) (y:=y) (r:=a) (s:=b) (l:=bh m.bX) (by omega) jl.2.2.1;rw[<-jl.1.eq,eo.2 dB]at c5;obtain⟨dv,eK,nn⟩:=Fu.bj t fds aR ⟨true,f,i,j⟩ (λr=>r=(⟨t.bl,rows⟩,0)) ⟨dd n y a,by rw[yA,gP,cA,aC];rfl,dd n y b,by rw[yA,gP,cA,ag];rfl,by
    rw[if_pos rfl]
    exact⟨m,hG ah,true,c5,by rw[if_pos rfl];exact⟨_,by rw[w3];exact N2,_,cF,rfl⟩⟩⟩
   subst eK;refine⟨_,nn,?_⟩;rw[if_pos rfl];have da:=XX rows dG;have pF:=da.len ck ao;refine⟨by omega,?_⟩
   exact aN (live*65+(64-rows.length)) (by omega) _ _ ⟨t.bl,rows⟩ _ da ck (du _) (by simp only[gC,hb];omega))
 exact⟨q,aa,I⟩
end
section
variable{n:Nat}
def so.ok{t:bT}(ao:n<=16)(al:t.bl=n)(hl:t.Rows.length<=64)(ae:kU t.Rows)(hr:∀z∈t.Rows,z.length=n/\∀c∈z,0<=c):so.C t true:=by
 have neg:∀z∈t.Rows,I_.C z false:=λz aG=>by
  obtain⟨iF,OH⟩:=hr z aG;obtain⟨q,I,aa⟩:=BO.bj z (λq=>q = -1) (by
   refine down (n:=z.length) (P:=λk=>BO.aJ z k λq=>q = -1) ?_ ?_ 0 (sv _)
   .apply BO.bE;rw[if_neg (by omega)]
   .intro k aj h;have aO:=OH _ (hR aj);obtain⟨p,dk,ea⟩:=Pt.bj z[k] (λp=>p=false) (decide_eq_false (by omega));subst dk;apply BO.bE;rw[if_pos (by omega)];refine⟨_,hG (cu aj),_,ea,?_⟩;rw[if_neg fR,dx (by omega)]
    exact h)
  subst I;obtain⟨p,c5,eo⟩:=I_.bj z (λp=>p=false) ⟨_,aa,rfl⟩;rw[<-c5];exact eo
 obtain⟨q,I,aa⟩:=so.bj t (λq=>q=true) (by
  rw[al,if_neg (by omega),if_neg (by omega),if_neg (by omega)];refine down (n:=t.Rows.length) (P:=λk=>so.aJ t k λq=>q=true) ?_ ?_ 0 (sv _)
  .apply so.bE;rw[if_neg (by omega)]
  .intro k aj h;have hm:=hR aj;have next:so.bm t k λq=>q=true:=by
    apply so.cU;rw[dx (by omega)];exact h
   apply so.bE;rw[if_pos (by omega)];refine⟨_,hG (cu aj),?_⟩;rw[if_pos (by rw[al,(hr _ hm).1])];refine⟨_,neg _ hm,?_⟩;rw[if_neg fR]
   split
   .rename_i aO;have e:aV ((k:Int)-1)=((k-1:Nat):Int):=by rw[nF (by omega) (by omega)];omega
    have hC:k-1<t.Rows.length:=by omega
    obtain⟨r,r1,r2⟩:=Qb (x:=t.Rows[k-1]) (y:=t.Rows[k]) (by rw[(hr _ (hR hC)).1];omega) (by rw[(hr _ hm).1];omega);refine⟨_,by rw[e];exact hG (cu hC),r,r1,?_⟩;have:=r2.2 ((List.pairwise_iff_getElem.1 ae) (k-1) k hC aj (by omega));rw[if_neg (by omega)];exact next
   .exact next)
 rw[<-I];exact aa
def mP(n i p:Nat):ay:=(List.range n).map λj=>if p.testBit j=true then(j:Int)else((n+i*n+j:Nat):Int)
def agk{x y:Nat}(ao:n<=16):mP n 0 (x ||| y)=dd n y (bF (2^n-1) (x ||| y)):=by
 unfold mP dd;refine hQ λj aH=>?_;have aH:=jr.1 aH;unfold hU q3;rw[fa,hq,decide_eq_true aH,fW];cases x.testBit j<;>cases y.testBit j<;>simp
def agl{x y:Nat}(ao:n<=16):mP n 1 (x ||| bF (2^n-1) y)=dd n y (bF (2^n-1) x ^^^ bF (2^n-1) (x ||| y)):=by
 unfold mP dd;refine hQ λj aH=>?_;have aH:=jr.1 aH;unfold hU q3;simp only[eb,fa,hq,decide_eq_true aH,fW];cases x.testBit j<;>cases y.testBit j<;>simp<;>omega
def mO.bp{p q:Nat}(ao:n<=6)(af:p<2^n)(au:q<2^n):∃rows,mO.C n [(p:Int),(q:Int)] (⟨n,rows⟩,0)/\kU rows/\∀z,z∈rows↔z=mP n 0 p∨z=mP n 1 q:=by
 have ns:2^n<=2^32:=a6 (by decide) (by omega);have len:∀i r,(mP n i r).length=n:=λi r=>by simp[mP]
 have row:∀(i r:Nat)(acc:aL)(J:bT×Int->Prop),i<=1->r<2^n->acc.length<=10->mO.aJ n [(p:Int),(q:Int)] (acc++[mP n i r]) ((i+1:Nat):Int) J->mO.bm n [(p:Int),(q:Int)] acc i (r:Int) (List.replicate (n:Int).toNat (0:Int)) i 0 J:=by
  intro i r acc J hi hr Nr h;have ch:i*n<=16:=Nat.le_trans (Nat.mul_le_mul hi ao) (by decide);have cell:∀j,j<n->(mP n i r)[j]?=some (if r.testBit j=true then(j:Int)else((n+i*n+j:Nat):Int)):=λj aH=>by
   unfold mP;rw[cA,List.getElem?_range aH];rfl
  have go:∀(d j:Nat)(A:ay),d+j=n->A.length=n->(∀c,c<j->A[c]?=(mP n i r)[c]?)->mO.bm n [(p:Int),(q:Int)] acc i (r:Int) A i j J:=by
   intro d
   induction d with
   |zero=>
    intro j A aH c2 eU;apply mO.cU;rw[if_neg (by omega)];refine⟨by omega,?_⟩;rw[dx (by omega)];have e:A=mP n i r:=by
     apply gD;intro c;by_cases ad:c<n
     .exact eU c (by omega)
     .rw [cc (by omega),cc (by rw[len];omega)]
    rw[e];exact h
   |succ d aN=>
    intro j A aH c2 eU;have rU:j<n:=by omega
    have ev:aV (aV ((n:Int)+aV ((i:Int)*(n:Int)))+(j:Int))=((n+i*n+j:Nat):Int):=by
     have gn:(i:Int)*(n:Int)=((i*n:Nat):Int):=by rw[Int.natCast_mul]
     rw[gn];generalize i*n=w at ch;rw[nF (x:=((w:Nat):Int)) (by omega) (by omega),nF (x:=(n:Int)+(w:Int)) (by omega) (by omega),nF (by omega) (by omega)];omega
    have next:∀A':ay,A'.length=n->A'[j]?=(mP n i r)[j]?->(∀c,c≠j->A'[c]?=A[c]?)->mO.cd n [(p:Int),(q:Int)] acc i (r:Int) A' i j J:=λA' AW yY u3=>by
     apply mO.fp;rw[dx (by omega)];refine aN (j+1) A' (by omega) AW λc ad=>?_;by_cases e:c=j
     .subst e;exact yY
     .rw [u3 c e];exact eU c (by omega)
    have el:∀v:Int,b7 A (j:Int) v=A.set j v:=λv=>by simp[b7]
    have ahc:∀(v w:Int),b7 (A.set j v) (j:Int) w=A.set j w:=λv w=>by simp[b7]
    apply mO.cU;rw[if_pos (by omega),ev,el];refine⟨A[j]'(by omega),hG (cu (by omega)),by omega,?_⟩
    split
    .rename_i ag;have ag:=(AI (aM hr ns)).1 ag;refine⟨_,hG (b3 (by omega)),?_⟩;rw[ahc];refine next _ (by simpa using c2) ?_ λc ad=>dR (λh=>ad h.symm);rw[b3 (by omega),cell j rU,if_pos ag]
    .rename_i ag;have ag:¬r.testBit j=true:=λh=>ag ((AI (aM hr ns)).2 h);refine next _ (by simpa using c2) ?_ λc ad=>dR (λh=>ad h.symm);rw[b3 (by omega),cell j rU,if_neg ag]
  exact go n 0 _ (by omega) (by simp) λc ad=>absurd ad (dn c)
 obtain⟨rows,s1,s2,d_⟩:=tD.bp (n:=(n:Int)) (l:=[mP n 0 p,mP n 1 q]) (by simp) (λz aG=>by
  simp only[List.mem_cons,List.not_mem_nil,or_false]at aG
  rcases aG with rfl|rfl<;>rw[len]<;>omega)
 have shr:∀r:Nat,r<2^n->ft .u32 (r:Int) (n:Int)=0:=λr hr=>by
  have:=ot (k:=.u32) (a:=r) (i:=n) (by simpa[top]using aM hr ns);rw[this,tR hr];rfl
 obtain⟨r,I,aa⟩:=mO.bj n [(p:Int),(q:Int)] (λr=>r=(⟨n,rows⟩,0)) (by
  rw[if_neg (by omega),if_neg (by omega),if_neg (by simp)];have one:∀(i r:Nat)(acc:aL),a_ [(p:Int),(q:Int)] (i:Int)=some (r:Int)->i<=1->r<2^n->acc.length<=10->mO.aJ n [(p:Int),(q:Int)] (acc++[mP n i r]) ((i+1:Nat):Int) (λr=>r=(⟨n,rows⟩,0))->mO.aJ n [(p:Int),(q:Int)] acc i λr=>r=(⟨n,rows⟩,0):=λi r acc ak hi hr Nr h=>by
   apply mO.bE;rw[if_pos (by simp;omega)];refine⟨_,ak,by omega,?_⟩;rw[if_pos (shr r hr)];exact⟨⟨by omega,by omega⟩,row i r acc _ hi hr Nr h⟩
  refine one 0 p [] rfl (by omega) af (by simp) (one 1 q _ rfl (by omega) au (by simp) ?_);apply mO.bE;rw[if_neg (by simp)]
  exact⟨_,s1,rfl⟩)
 subst I;exact⟨rows,aa,s2,λz=>by rw[d_ z];simp⟩
end
def sk.bp{n x y:Nat}{fds:List bC}{aR:List br}(h:hJ n fds aR)(av:rA n fds aR)(eL:Ho n fds aR)(U:x<2^n)(aw:y<2^n):sk.C n fds aR ⟨x,y⟩ (lW n fds aR x y,0):=by
 have ao:=h.nr;have ns:2^n<=2^32:=a6 (by decide) (by omega);have pp:0<2^n:=Nat.two_pow_pos n;have w3:eZ .u32 (x:Int) (y:Int)=((x ||| y:Nat):Int):=p9 (hg (by omega)) (hg (by omega));have Eu:x ||| y<2^n:=fx U aw
 have ag9:fK .u32 (IntKind.wrap .u32 (jo .u32 1 (n:Int)-1)) (y:Int)=((bF (2^n-1) y:Nat):Int):=by
  have aT:jo .u32 1 (n:Int)=((2^n:Nat):Int):=C0 (k:=.u32) (i:=n) (by simp only[top];omega);have a5:IntKind.wrap .u32 (((2^n:Nat):Int)-1)=((2^n-1:Nat):Int):=by
   rw[show((2^n:Nat):Int)-1=((2^n-1:Nat):Int) by omega];exact nD (k:=.u32) (by simp only[top];omega)
  rw[aT,a5];exact sz (hg (by omega)) (hg (by omega))
 have au:x ||| bF (2^n-1) y<2^n:=fx U GP
 have ahh:eZ .u32 (x:Int) ((bF (2^n-1) y:Nat):Int)=((x ||| bF (2^n-1) y:Nat):Int):=p9 (hg (by omega)) (hg (aM GP ns));obtain⟨rows,cF,ck,dG⟩:=mO.bp (n:=n) ao Eu au;rw[agk (by omega),agl (by omega)]at dG;have af:=h.part (x:=x);have hf:=h.fin (x:=x);have aO:iO n x y (fds.map gV) (aR.map en) (bF (2^n-1) x) (λu=>u=0∨u=bF (2^n-1) x) rows:=by
  have ahg:bF (bF (2^n-1) x) (x ||| y)=bF (2^n-1) (x ||| y):=by
   apply fB;intro i;simp only[fa,fW];cases(2^n-1).testBit i<;>cases x.testBit i<;>cases y.testBit i<;>rfl
  refine⟨⟨.inl rfl,.inr rfl,?_,λi hi=>hi,?_,λi I aa=>by rw[I]at aa;cases aa⟩,λz=>?_⟩
  .rintro r (rfl|rfl) i hi
   .rw [cz]at hi;cases hi
   .exact hi
  .rintro r (rfl|rfl) b ag
   .exact .inl λi _ _=>cz i
   .exact .inr λi _ h=>h
  .rw [dG z,ahg];constructor
   .rintro (rfl|rfl)
    .exact ⟨0,.inl rfl,by rw[Nat.zero_xor]⟩
    .exact ⟨_,.inr rfl,rfl⟩
   .rintro ⟨u,rfl|rfl,rfl⟩
    .exact .inl (by rw[Nat.zero_xor])
    .exact .inr rfl
 have hl:=aO.len ck ao;have IC:∀z∈rows,z.length=n/\∀c∈z,0<=c:=λz aG=>by
  obtain⟨u,_,rfl⟩:=(aO.tab z).1 aG;refine⟨lb,λc ad=>?_⟩;obtain⟨j,aH,rfl⟩:=aQ.1 ad;exact(Zh (jr.1 aH)).1
 have VT:mN.C n fds aR 0:=by
  have:=mN.bp (n:=(n:Int)) h.qB h.vp
  rwa [show hy (n:Int) fds aR=0 from av]at this
 obtain⟨k,b9,k2⟩:=Pu.bj ⟨n,rows⟩ fds aR (λk=>k=0) ⟨_,so.ok (by omega) rfl hl ck IC,by
  rw[if_pos rfl]
  exact⟨_,VT,rfl⟩⟩
 subst b9;obtain⟨s,⟨live,T,s1,s2,d_,Xp⟩,alp⟩:=B7.bj ⟨n,rows⟩ fds aR (λs=>∃(live:Nat)(T:Nat->Prop),iO n x y (fds.map gV) (aR.map en) live T s.2.1.Rows/\kU s.2.1.Rows/\yp (fds.map gV) (aR.map en) T/\s.2.2=0) ⟨_,k2,by
  rw[if_pos rfl];refine⟨_,pX.bp (by simp only;omega) (λz aG=>by rw[(IC z aG).1];omega),?_⟩;have tj:=aO.OV;have:2^n<=2^6:=a6 (by decide) ao
  exact steps ao eL af hf (λlive T t acc a b c=>⟨live,T,a,b,c,rfl⟩) 5000 _ _ ⟨n,rows⟩ [] aO ck (by simp only;omega) (by simp)⟩
 obtain⟨st,tab,e⟩:=s;simp only at s1 s2 Xp;subst Xp;obtain⟨u,o5,q5⟩:=Pr.bj ⟨n,rows⟩ fds aR (λu=>u=(tab,0)) ⟨_,alp,rfl⟩;subst o5;have aiQ:=s1.Na (by omega) (h.f32) d_;have En:=s1.len s2 ao;obtain⟨r,I,aa⟩:=sk.bj n fds aR ⟨x,y⟩ (λr=>r=(lW n fds aR x y,0)) ⟨_,VT,by
  rw[if_pos rfl];refine⟨by omega,?_⟩;have shr:ft .u32 ((x ||| y:Nat):Int) (n:Int)=0:=by
   have:=ot (k:=.u32) (a:=x ||| y) (i:=n) (hg (by omega));rw[this,tR Eu];rfl
  rw[w3,if_pos shr];refine⟨by omega,(⟨n,rows⟩,0),by rw[ag9,ahh];exact cF,?_⟩;apply sk.fp;rw[if_pos rfl];refine⟨_,q5,?_⟩;apply sk.cU;rw[if_pos rfl];refine⟨⟨by omega,by omega⟩,?_⟩;rw[cD,List.length_replicate];have go:∀(d j:Nat)(A:ay),d+j=n->A.length=n->(∀c,c<j->A[c]?=some (c:Int))->sk.aJ (tab,0) A (n:Nat) j λr=>r=(lW n fds aR x y,0):=by
   intro d
   induction d with
   |zero=>
    intro j A aH c2 eU;have ag7:A=dd n y 0:=by
     apply gD;intro c;by_cases ad:c<n
     .rw [eU c (by omega),rh ad];unfold hU;rw[if_neg (by rw[cz];decide)]
     .rw [cc (by omega),cc (by rw[lb];omega)]
    apply sk.bE;rw[if_neg (by omega),ag7];refine⟨_,xA.bp (by simp only;omega) (λz aG=>by
     obtain⟨u,_,rfl⟩:=(s1.tab z).1 aG
     rw[lb];omega) (by rw[lb];omega),?_⟩
    have:decide (dd n y 0∈tab.Rows)=lW n fds aR x y:=by
     rw[ig,decide_eq_true_eq,aiQ,Tg];exact Iff.rfl
    rw[show((tab,(0:Int)).1).Rows=tab.Rows from rfl,this]
   |succ d aN=>
    intro j A aH c2 eU;apply sk.bE;rw[if_pos (by omega)];refine⟨A[j]'(by omega),hG (cu (by omega)),?_⟩;rw[dx (by omega),show b7 A (j:Int) (j:Int)=A.set j (j:Int) by simp[b7]];refine aN (j+1) _ (by omega) (by simpa using c2) λc ad=>?_;by_cases e:c=j
    .subst e;exact b3 (by omega)
    .rw [dR (by omega)];exact eU c (by omega)
  exact go n 0 _ (by omega) (by simp) λc ad=>absurd ad (dn c)⟩
 rw[<-I];exact aa
def mz(n:Nat):List Nat->Nat->List h7
 |[],_=>[]
 |r::R,k=>⟨((k+1:Nat):Int),od n r⟩::mz n R (k+1)
def S5{n:Nat}:∀{R:List Nat}{k:Nat},(mz n R k).length=R.length
 |[],_=>rfl
 |r::R,k=>by simp only[mz,hP];rw[S5]
def Gq{n:Nat}:∀{R:List Nat}{k i:Nat},(mz n R k)[i]?=R[i]?.map λr=>(⟨((k+i+1:Nat):Int),od n r⟩:h7)
 |[],_,i=>by simp[mz]
 |r::R,k,0=>by simp[mz]
 |r::R,k,i+1=>by
  simp only[mz,List.getElem?_cons_succ];rw[Gq,show k+1+i+1=k+(i+1)+1 by omega]
def hX(n:Nat)(R:List Nat):cH:=⟨⟨#[116]⟩,pv.take n,mz n R 0⟩
def oc.all{n:Nat}{R:List Nat}(ao:n<=16)(cQ:∀r∈R,r<2^32)(hl:R.length<=1000):oc.C n (ed R) (hX n R):=by
 obtain⟨r,I,aa⟩:=oc.bj n (ed R) (λr=>r=hX n R) (by
  have rows:∀(l:List Nat)(k:Nat)(acc:List h7),R.drop k=l->acc.length=k->acc++mz n l k=mz n R 0->oc.bm n (ed R) (pv.take n) acc (k:Int) (λr=>r=hX n R):=by
   intro l
   induction l with
   |nil=>
    intro k acc aj _ aC;have:=gd aj;apply oc.cU;rw[if_neg (by rw[nJ];omega)];unfold hX;rw[<-aC];simp[mz]
   |cons a l aN=>
    intro k acc aj H6 aC;have bU:=gl aj;have ak:=eO aj;apply oc.cU;rw[if_pos (by rw[nJ];omega)];refine⟨_,Al ak,?_⟩;rw[dx (by omega)];refine oc.cells (m:=a) (k:=k) (rows:=acc) ao (cQ a (aA ak)) (by omega) (by omega) ?_ n 0 (by omega);refine aN (k+1) _ (e4 aj) (by simp[H6]) ?_;rw[<-aC];simp[mz]
  have:∀(d i:Nat),d+i=n->oc.aJ n (ed R) (pv.take i) i (λr=>r=hX n R):=by
   intro d
   induction d with
   |zero=>
    intro i ah;have:i=n:=by omega
    subst this;apply oc.bE;rw[if_neg (by omega)];exact rows R 0 [] rfl rfl rfl
   |succ d aN=>
    intro i ah;have next:=aN (i+1) (by omega);rw[aaD (by omega),<-abM ⟨i,by omega⟩]at next;apply oc.bE;rw[if_pos (by omega),dx (by omega)];exact⟨by rw[SY (by omega)];omega,next⟩
  exact this n 0 rfl)
 rw[<-I];exact aa
section
variable{n:Nat}{R:List Nat}
def S4(n:Nat):∀(R:List Nat)(k:Nat)(last:Int),last<=k->nL n last (mz n R k)=0
 |[],_,_,_=>rfl
 |r::R,k,last,h=>by
  simp only[mz];rw[nL,if_neg (by show ¬((k+1:Nat):Int)<=last;omega),if_pos TD,if_pos aam];exact S4 n R (k+1) _ (by show((k+1:Nat):Int)<=_;omega)
def x1:(hX n R).Rows.length=R.length:=S5
def uf(ao:n<=16):(hX n R).bl.length=n:=SY ao
def LD(ao:n<=16)(hl:R.length<=1000):kl (hX n R) where
 name:=Ut (by decide)
 pT:=by rw[uf ao];exact ao
 BA:=by rw[x1];exact hl
 names:=ZE
 rows:=by rw[uf ao];exact S4 n R 0 0 (Int.le_refl _)
def zW{i k r s a:Nat}(hi:R[i]?=some r)(aj:R[k]?=some s)(aC:a<n):nN (hX n R) i k a↔r.testBit a=s.testBit a:=by
 unfold nN hX;show((mz n R 0)[i]?.map λr=>r.di[a]?)=((mz n R 0)[k]?.map λr=>r.di[a]?)↔_;rw[Gq,Gq,hi,aj];show some ((od n r)[a]?)=some ((od n s)[a]?)↔_;rw[TC aC,TC aC];cases r.testBit a<;>cases s.testBit a<;>simp[DF]
def Di{i:Nat}(h:i<R.length):∃r,R[i]?=some r/\r∈R:=⟨R[i],cu h,hR h⟩
def xU{l i k r s:Nat}(hl:l<2^n)(hi:R[i]?=some r)(aj:R[k]?=some s):(∀a,l.testBit a=true->nN (hX n R) i k a)↔gf l r s:=
 forall_congr' λa=>forall_congr' λaC=>zW hi aj (lN.1 hl a aC)
def abX{l r:Nat}(ao:n<=16)(hlen:R.length<=1000)(hl:l<2^n)(hr:r<2^n):qq (hX n R) l r↔∀u v,u∈R->v∈R->gf l u v->gf r u v:=by
 have af:=Ax ao;rw[aeb (LD ao hlen) (by omega) (by omega),x1];constructor
 .intro h u v hu av aC;obtain⟨i,hi⟩:=bo hu;obtain⟨k,aj⟩:=bo av;have rT:=(ba.1 hi).1;have va:=(ba.1 aj).1;rcases Nat.lt_trichotomy k i with bU|he|bU
  .exact (xU hr hi aj).1 (h i k rT bU ((xU hl hi aj).2 aC))
  .subst he;rw[hi]at aj;cases aj;exact λ_ _=>rfl
  .exact λb ag=>((xU hr aj hi).1 (h k i va bU ((xU hl aj hi).2 λb ag=>(aC b ag).symm)) b ag).symm
 .intro h i k hi aj e;obtain⟨u,hu,Bk⟩:=Di hi;obtain⟨v,av,Ow⟩:=Di (R:=R) (i:=k) (by omega);exact(xU hr hu av).2 (h u v Bk Ow ((xU hl hu av).1 e))
def ac9{m:Nat×Nat}(ao:n<=16)(hl:m.1<2^n)(hr:m.2<2^n)(h:∀u v,u∈R->v∈R->gf m.1 u v->gr m u v∈R):sQ (hX n R) m.1 m.2:=by
 intro i k hi aj e;rw[x1]at hi aj;obtain⟨u,hu,Bk⟩:=Di hi;obtain⟨v,av,Ow⟩:=Di aj;obtain⟨j,aH⟩:=bo (h u v Bk Ow ((xU hl hu av).1 e));refine⟨j,by rw[x1];exact(ba.1 aH).1,λa aC=>?_,λa aC ag=>?_⟩
 .rw [zW aH hu (lN.1 (fx hl hr) a aC),p8,if_pos aC]
 .rw [uf ao]at aC;rw[zW aH av aC,p8,if_neg (by rw[ag];simp)]
end
def EV(n:Int)(l:List bC)(m:List br)(a b:Int):Int:=if hy n l m=0 then(if 8<n then 3 else if gX n.toNat a b=true then 0 else 1)else hy n l m
def B5.bp{n:Int}{l:List bC}{m:List br}{a b:Int}(hl:po l)(hm:rq m)(aC:dz a)(ag:dz b):B5.C n l m a b (EV n l m a b):=by
 obtain⟨r,I,aa⟩:=B5.bj n l m a b (λr=>r=EV n l m a b) (by
  refine⟨_,mN.bp hl hm,?_⟩;unfold EV;by_cases aO:hy n l m=0
  .rw [if_pos aO,if_pos aO];obtain⟨q,rfl⟩:∃q:Nat,n=q:=⟨n.toNat,by have:=Ug aO;omega⟩
   by_cases dL:8<(q:Int)
   .rw [if_pos dL,if_pos dL]
   .rw [if_neg dL,if_neg dL];refine⟨_,B4.bp aC ag,?_⟩;rw[cD]
    split<;>rfl
  .rw [if_neg aO,if_neg aO])
 rw[<-I];exact aa
def tB.bp{R:List Nat}{x:Nat}(hl:R.length<=1000000):tB.C (x:Int) (ed R) (decide (x ∉ R),ed (if x∈R then R else R++[x])):=by
 obtain⟨r,I,aa⟩:=tB.bj (x:Int) (ed R) (λr=>r=(decide (x ∉ R),ed (if x∈R then R else R++[x]))) (by
  refine⟨_,YS (by rw[nJ];omega),?_⟩;by_cases h:x∈R
  .rw [if_pos (by rw[decide_eq_true_eq];exact Ur.2 h)];simp[h]
  .rw [if_neg (by rw[decide_eq_true_eq];exact λaU=>h (Ur.1 aU))]
   exact⟨by rw[nJ];omega,by simp[h,ed]⟩)
 rw[<-I];exact aa
def GY(d:Nat×Nat)(R:List Nat)(D:Nat):Prop:=∀i,D.testBit i=true↔d.2.testBit i=true/\∃r s,r∈R/\s∈R/\gf d.1 r s/\r.testBit i≠s.testBit i
section
variable{n x:Nat}{fds:List bC}{aR:List br}
def GY.done{d:Nat×Nat}{R:List Nat}(h:GY d R 0):GX d R:=λr s hr ae aC i hi=>by
 have:=h i;rw[cz]at this;cases au:decide (r.testBit i=s.testBit i)with
 |true=>exact of_decide_eq_true au
 |false=>exact absurd (this.2 ⟨hi,r,s,hr,ae,aC,of_decide_eq_false au⟩) (by simp)
def nG.gone{fds aR:List (Nat×Nat)}{bs:List Nat}{rest live:Nat}(af:hI rest bs)(hf:wK (qh fds aR) bs){d:Nat×Nat}(ah:d∈fds)(Ec:d.2<2^32){R A:List Nat}(h:nG fds bs rest live R){D:Nat}(hB:GY d R D)(aO:D≠0)(ao:A.Nodup)(c2:∀u,u∈A↔∃q∈R,u=bF q D):∃Bt,Bt<live/\nG fds bs rest Bt A:=by
 refine⟨bF live D,?_,ao,?_⟩
 .refine lI oq λhe=>?_;obtain⟨i,hi⟩:=Uu aO;obtain⟨_,r,s,hr,ae,_,cI⟩:=(hB i).1 hi;have hl:live.testBit i=true:=by
   cases au:r.testBit i with
   |true=>exact h.2.sub r hr i au
   |false=>
    cases pK:s.testBit i with
    |true=>exact h.2.sub s ae i pK
    |false=>rw[au,pK]at cI;exact absurd rfl cI
  have:=congrArg (λx=>x.testBit i) he;simp only[fa,hi,hl]at this;cases this
 .have:=h.2.fd af hf ah Ec λi hi=>(hB i).1 hi;have e:(λu=>u∈A)=λu=>∃q,q∈R/\u=bF q D:=by funext u;rw[c2 u]
  rw[e];exact this
namespace Ft
def alf{R:List Nat}{D:Nat}(hB:D<2^32)(cQ:∀r∈R,r<2^32)(hl:R.length<=1000){i:Nat}{J:ay->Prop}(h:∀A:List Nat,A.Nodup->(∀u,u∈A↔∃q∈R,u=bF q D)->Dw fds aR (ed A) true (i:Int) J):
  ∀(r:List Nat)(k:Nat)(A:List Nat),R.drop k=r->A.length<=k->A.Nodup->(∀u,u∈A↔∃q∈R.take k,u=bF q D)->js fds aR (ed A) (D:Int) (ed R) (i:Int) (R.length:Int) (k:Int) J:=by
 intro r
 induction r with
 |nil=>
  intro k A ah aj ao hm;have:=gd ah;apply uH;rw[if_neg (by omega)];refine h A ao λu=>?_;rw[hm u,bL this]
 |cons a r aN=>
  intro k A ah aj ao hm;have bU:=gl ah;have aC:=eO ah;have D9:=cQ a (aA aC);apply uH;rw[if_pos (by omega)];refine⟨_,Al aC,?_⟩;rw[sz (hg D9) (hg hB)];refine⟨_,tB.bp (by omega),?_⟩;rw[dx (by omega)];refine aN (k+1) _ (e4 ah) ?_ ?_ ?_
  .split
   .omega
   .rw [gC,hb];omega
  .split
   .exact ao
   .rename_i Bd;rw[nA];exact⟨ao,by simp,λx U y aw=>by simp only[bB]at aw;subst aw;rintro rfl;exact Bd U⟩
  .intro u
   split
   .rename_i ch;rw[hm u];constructor
    .rintro ⟨q,I,aa⟩;exact⟨q,(C3 aC).2 (.inl I),aa⟩
    .rintro ⟨q,I,rfl⟩;rcases(C3 aC).1 I with I|rfl
     .exact ⟨q,I,rfl⟩
     .exact (hm _).1 ch
   .rw [eW,hm u,bB];constructor
    .rintro (⟨q,I,aa⟩|rfl)
     .exact ⟨q,(C3 aC).2 (.inl I),aa⟩
     .exact ⟨a,(C3 aC).2 (.inr rfl),rfl⟩
    .rintro ⟨q,I,rfl⟩;rcases(C3 aC).1 I with I|rfl
     .exact .inl ⟨q,I,rfl⟩
     .exact .inr rfl
def UK(d:Nat×Nat)(R:List Nat)(i j:Nat)(D:Nat):Prop:=∀b,D.testBit b=true↔d.2.testBit b=true/\∃(p q r s:Nat),(p<i∨(p=i/\q<j))/\R[p]?=some r/\R[q]?=some s/\gf d.1 r s/\r.testBit b≠s.testBit b
def ahN{R:List Nat}{d:bC}(ah:dz d.bX/\dz d.bZ)(cQ:∀r∈R,r<2^32)(hl:R.length<=1000){fY:Bool}{f:Nat}{J:ay->Prop}(h:∀D:Nat,D<2^32->GY (gV d) R D->(if(D:Int)=0 then Dw fds aR (ed R) fY (f:Int) J else js fds aR [] (D:Int) (ed R) (f:Int) (R.length:Int) 0 J)):
  ∀(l:List Nat)(i D:Nat),R.drop i=l->D<2^32->UK (gV d) R i 0 D->cd fds aR (ed R) fY d (D:Int) (f:Int) (R.length:Int) (i:Int) J:=by
 intro l
 induction l with
 |nil=>
  intro i D hi hB ak;have gz:=gd hi;apply fp;rw[if_neg (by omega)];have:=h D hB λb=>by
   rw[ak b];refine and_congr_right λ_=>?_;constructor
   .rintro ⟨p,q,r,s,_,I,aa,aB,aW⟩;exact⟨r,s,aA I,aA aa,aB,aW⟩
   .rintro ⟨r,s,I,aa,aB,aW⟩;obtain⟨p,af⟩:=bo I;obtain⟨q,au⟩:=bo aa;exact⟨p,q,r,s,.inl (by have:=(ba.1 af).1;omega),af,au,aB,aW⟩
  rw[nJ];exact this
 |cons a l aN=>
  intro i D hi hB ak;have bU:=gl hi;have aC:=eO hi;have AY:=aA aC;apply fp;rw[if_pos (by omega)];refine⟨_,Al aC,?_⟩;have inner:∀(l2:List Nat)(k D:Nat),R.drop k=l2->D<2^32->UK (gV d) R i k D->h5 fds aR (ed R) fY d (D:Int) (a:Int) (f:Int) (R.length:Int) (i:Int) (R.length:Int) (k:Int) J:=by
   intro l2
   induction l2 with
   |nil=>
    intro k D aj hB ak;have gz:=gd aj;apply oB;rw[if_neg (by omega),dx (by omega)];refine aN (i+1) D (e4 hi) hB λb=>?_;rw[ak b];refine and_congr_right λ_=>?_;constructor
    .rintro ⟨p,q,r,s,aO,I⟩;exact⟨p,q,r,s,.inl (by omega),I⟩
    .rintro ⟨p,q,r,s,aO,I,aa,aB⟩;refine⟨p,q,r,s,?_,I,aa,aB⟩;have:=(ba.1 aa).1;omega
   |cons c l2 xi=>
    intro k D aj hB ak;have Wo:=gl aj;have ad:=eO aj;have jx:=aA ad;apply oB;rw[if_pos (by omega)];refine⟨_,Al ad,?_⟩;by_cases aO:gf (bh d.bX) a c
    .rw [if_pos ((G2 (cQ a AY) (cQ c jx) ah.1).2 aO),Uy (cQ a AY) (cQ c jx) ah.2];have U:(a ^^^ c) &&& bh d.bZ<2^32:=hc tQ ah.2.lt;rw[p9 (hg hB) (hg U)];apply Hu;rw[dx (by omega)];refine xi (k+1) _ (e4 aj) (fx hB U) λb=>?_;rw[fW,iZ,ak b,kf,hF,eb];constructor
     .rintro (⟨I,p,q,r,s,aa,aB⟩|⟨I,aa⟩)
      .exact ⟨I,p,q,r,s,by omega,aB⟩
      .refine ⟨aa,i,k,a,c,.inr ⟨rfl,by omega⟩,aC,ad,aO,λhe=>?_⟩;rw[he]at I;simp at I
     .rintro ⟨I,p,q,r,s,aa,aB,aW,bO,c7⟩;by_cases Oa:p=i/\q=k
      .obtain ⟨rfl,rfl⟩:=Oa;rw[aC]at aB;cases aB;rw[ad]at aW;cases aW;refine .inr ⟨?_,I⟩;cases au:a.testBit b<;>cases pK:c.testBit b<;>simp_all
      .exact .inl ⟨I,p,q,r,s,by omega,aB,aW,bO,c7⟩
    .rw [if_neg λaU=>aO ((G2 (cQ a AY) (cQ c jx) ah.1).1 aU)];apply Hu;rw[dx (by omega)];refine xi (k+1) D (e4 aj) hB λb=>?_;rw[ak b];refine and_congr_right λ_=>?_;constructor
     .rintro ⟨p,q,r,s,aa,aB⟩;exact⟨p,q,r,s,by omega,aB⟩
     .rintro ⟨p,q,r,s,aa,aB,aW,bO,c7⟩;by_cases Oa:p=i/\q=k
      .obtain ⟨rfl,rfl⟩:=Oa;rw[aC]at aB;cases aB;rw[ad]at aW;cases aW;exact absurd bO aO
      .exact ⟨p,q,r,s,by omega,aB,aW,bO,c7⟩
  rw[nJ];refine inner R 0 D rfl hB λb=>?_;rw[ak b]
def akV{kR:List Nat}{m:br}(ah:dz m.bX/\dz m.bZ){uC:List Nat->Prop}(D6:UL (en m) uC){j:Nat}{AK:Bool}{J:ay->Prop}(ni:∀(fY:Bool)(A:List Nat),uC A->kR.length<=A.length->(if fY=true then AK=true∨kR.length<A.length else AK=false/\A=kR/\LZ (en m) kR)->fX fds aR (ed A) fY (aV ((j:Int)+1)) J):
  ∀(l:List Nat)(i:Nat)(R:List Nat)(fY:Bool),kR.drop i=l->uC R->(∀r∈kR,r∈R)->kR.length<=R.length->(if fY=true then AK=true∨kR.length<R.length else AK=false/\R=kR/\∀p r s,p<i->kR[p]?=some r->s∈kR->gf (en m).1 r s->gr (en m) r s∈kR) ->
   kj fds aR (ed R) fY m (j:Int) (ed kR) (kR.length:Int) (i:Int) J:=by
 intro l
 induction l with
 |nil=>
  intro i R fY hi cQ ia hlen lv;have gz:=gd hi;apply sR;rw[if_neg (by omega)];refine ni fY R cQ hlen ?_;cases fY with
  |true=>simpa using lv
  |false=>
   simp only[b5,if_false]at lv⊢;obtain⟨I,aa,aB⟩:=lv;refine⟨I,aa,λr s hr ae=>?_⟩;obtain⟨p,af⟩:=bo hr;exact aB p r s (by have:=(ba.1 af).1;omega) af ae
 |cons a l aN=>
  intro i qp MV hi VH EF ajc Ny;have bU:=gl hi;have aC:=eO hi;have AY:=aA aC;have VA:=D6.len qp VH;apply sR;rw[if_pos (by omega)];refine⟨_,Al aC,by rw[nJ];omega,?_⟩;have inner:∀(l2:List Nat)(k:Nat)(R:List Nat)(fY:Bool),qp.drop k=l2->uC R->(∀r∈qp,r∈R)->kR.length<=R.length ->
    (if fY=true then AK=true∨kR.length<R.length else MV=false/\R=qp/\∀q s,q<k->qp[q]?=some s->gf (en m).1 a s->gr (en m) a s∈qp) ->
    Hp fds aR (ed R) fY m (a:Int) (j:Int) (ed kR) (kR.length:Int) (i:Int) (ed qp) (qp.length:Int) (k:Int) J:=by
   intro l2
   induction l2 with
   |nil=>
    intro k R fY aj cQ ia hlen lv;have gz:=gd aj;apply UR;rw[if_neg (by omega),dx (by omega)];refine aN (i+1) R fY (e4 hi) cQ (λr hr=>ia r (EF r hr)) hlen ?_;cases fY with
    |true=>simpa using lv
    |false=>
     simp only[b5,if_false]at lv⊢;obtain⟨rfl,rfl,aB⟩:=lv;simp only[b5,if_false]at Ny;obtain⟨cF,rfl,dG⟩:=Ny;refine⟨cF,rfl,λp r s af hr ae=>?_⟩;by_cases Iy:p=i
     .subst Iy;rw[aC]at hr;cases hr;obtain⟨q,au⟩:=bo ae;exact aB q s (by have:=(ba.1 au).1;omega) au
     .exact dG p r s (by omega) hr ae
   |cons c l2 xi=>
    intro k R fY aj cQ ia hlen lv;have Wo:=gl aj;have ad:=eO aj;have jx:=aA ad;have OD:=D6.lt R cQ a (ia a (EF a AY));have Bm:=D6.lt R cQ c (ia c jx);have amn:=D6.len R cQ;have stay:(gf (en m).1 a c->gr (en m) a c∈R)->Dv fds aR (ed R) fY m (a:Int) (j:Int) (ed kR) (kR.length:Int) (i:Int) (ed qp) (qp.length:Int) (k:Int) J:=λao=>by
     apply US;rw[dx (by omega)];refine xi (k+1) R fY (e4 aj) cQ ia hlen ?_;cases fY with
     |true=>simpa using lv
     |false=>
      simp only[b5,if_false]at lv⊢;obtain⟨I,rfl,aB⟩:=lv;refine⟨I,rfl,λq s au ae=>?_⟩;by_cases ajT:q=k
      .subst ajT;rw[ad]at ae;cases ae;exact ao
      .exact aB q s (by omega) ae
    apply UR;rw[if_pos (by omega)];refine⟨_,Al ad,?_⟩;by_cases aO:gf (bh m.bX) a c
    .rw [if_pos ((G2 OD Bm ah.1).2 aO),akU ah.1 ah.2 OD Bm];refine⟨_,tB.bp (by omega),?_⟩;by_cases ch:gr (bh m.bX,bh m.bZ) a c∈R
     .rw [if_neg (by simp[ch])];simp only[if_pos ch];exact stay λ_=>ch
     .rw [if_pos (by simp[ch])];simp only[if_neg ch];have D7:=D6.add R a c cQ (ia a (EF a AY)) (ia c jx) aO ch;rw[show(en m)=(bh m.bX,bh m.bZ)from rfl]at D7;apply US;rw[dx (by omega)];have y1:(R++[gr (bh m.bX,bh m.bZ) a c]).length=R.length+1:=by simp
      refine xi (k+1) _ true (e4 aj) D7 (λr hr=>mS _ (ia r hr)) (by omega) ?_;rw[if_pos rfl];exact .inr (by omega)
    .rw [if_neg λaU=>aO ((G2 OD Bm ah.1).1 aU)];exact stay λao=>absurd ao aO
  rw[nJ];refine inner qp 0 qp MV rfl VH (λr hr=>hr) ajc ?_;cases MV with
  |true=>simpa using Ny
  |false=>
   simp only[b5,if_false];exact⟨trivial,trivial,λq s au=>absurd au (dn q)⟩
def loop(H:hJ n fds aR){J:ay->Prop}(ni:∀live R,lQ n fds aR x live R->J (ed R)):
  ∀(o7 live:Nat)(R:List Nat),nG (fds.map gV) (bd n fds aR x) (mZ n x) live R->ox live R<=o7->aJ fds aR (ed R) true J:=by
 have af:=H.part (x:=x);have hf:=H.fin (x:=x);have Bi:=LV (x:=x) H.nr;intro o7
 induction o7 using vM with
 |_ o7 akw=>
 intro live R cQ vj;have agp:∀(l:List br)(j:Nat),aR.drop j=l->∀(live:Nat)(R:List Nat)(fY:Bool),nG (fds.map gV) (bd n fds aR x) (mZ n x) live R->ox live R<=o7->(fY=true->ox live R<o7) ->
   (fY=false->(∀d∈fds,GX (gV d) R)/\∀(q:Nat)(m:br),q<j->aR[q]?=some m->LZ (en m) R)->fX fds aR (ed R) fY (j:Int) J:=by
  intro l
  induction l with
  |nil=>
   intro j aH live R fY cQ vj lv hZ;have:=gd aH;apply kT;rw[if_neg (by omega)];cases fY with
   |true=>exact akw _ (lv rfl) live R cQ (du _)
   |false=>
    apply bE;rw[if_neg (by simp)];obtain⟨I,aa⟩:=hZ rfl;refine ni live R ⟨cQ,aaO I λm hm=>?_⟩;obtain⟨q,au⟩:=bo hm;exact aa q m (by have:=(ba.1 au).1;omega) au
  |cons m l aN=>
   intro j aH live R fY cQ vj lv hZ;have bU:=gl aH;have hm:=eO aH;have l5:=aA hm;have VA:=H.m64;have VJ:=cQ.len Bi;apply kT;rw[if_pos (by omega)];refine⟨m,jW aH,by rw[nJ];omega,?_⟩;have ak:=nG.ahR (live:=live) af hf Bi (m:=en m) (aQ.2 ⟨m,l5,rfl⟩);rw[nJ];refine akV (H.vp m l5) ak (AK:=fY) (λagV A c2 hle ad=>?_) R 0 R fY rfl cQ (λr hr=>hr) (du _) ?_
   .rw [dx (by omega)];have ah2:=c2.len Bi;have ajb:ox live A<=ox live R:=by unfold ox;omega
    cases agV with
    |true=>
     rw[if_pos rfl]at ad;refine aN (j+1) (e4 aH) live A true c2 (by omega) (λ_=>?_) (λh=>by cases h);rcases ad with ad|ad
     .have:=lv ad;omega
     .have:ox live A<ox live R:=by unfold ox;omega
      omega
    |false=>
     simp only[b5,if_false]at ad;obtain⟨cF,rfl,dG⟩:=ad;refine aN (j+1) (e4 aH) live A false c2 vj (λh=>by cases h) λ_=>⟨(hZ cF).1,λq k4 au e8=>?_⟩
     by_cases ajS:q=j
     .subst ajS;rw[hm]at e8;cases e8;exact dG
     .exact (hZ cF).2 q k4 (by omega) e8
   .cases fY with
    |true=>simp
    |false=>
     simp only[b5,if_false];exact⟨trivial,trivial,λp r s af=>absurd af (dn p)⟩
 have ago:∀(l:List bC)(i:Nat),fds.drop i=l->∀(live:Nat)(R:List Nat)(fY:Bool),nG (fds.map gV) (bd n fds aR x) (mZ n x) live R->ox live R<=o7->(fY=true->ox live R<o7) ->
   (fY=false->∀(q:Nat)(d:bC),q<i->fds[q]?=some d->GX (gV d) R)->bm fds aR (ed R) fY (i:Int) J:=by
  intro l
  induction l with
  |nil=>
   intro i hi live R fY cQ vj lv hZ;have:=gd hi;apply cU;rw[if_neg (by omega)];refine agp aR 0 rfl live R fY cQ vj lv λh=>⟨λd ah=>?_,λq m au=>absurd au (dn q)⟩
   obtain⟨q,au⟩:=bo ah;exact hZ h q d (by have:=(ba.1 au).1;omega) au
  |cons d l aN=>
   intro i hi live R fY cQ vj lv hZ;have bU:=gl hi;have ah:=eO hi;have oM:=aA ah;have VA:=H.f64;have VJ:=cQ.len Bi;have VI:∀r∈R,r<2^32:=λr hr=>aM (cQ.lt Bi hr) (by decide);apply cU;rw[if_pos (by omega)];refine⟨d,jW hi,?_⟩;rw[nJ];refine ahN (H.qB d oM) VI (by omega) (λD hB ak=>?_) R 0 0 rfl (by omega) λb=>?_
   .by_cases aO:D=0
    .subst aO;rw[if_pos (show((0:Nat):Int)=0 by omega)];apply UT;rw[dx (by omega)];refine aN (i+1) (e4 hi) live R fY cQ vj lv λh q bf au l0=>?_;by_cases ajR:q=i
     .subst ajR;rw[ah]at l0;cases l0;exact ak.done
     .exact hZ h q bf (by omega) l0
    .rw [if_neg (by omega)];refine alf hB VI (by omega) (λA a2 bA=>?_) R 0 [] rfl (du 0) List.nodup_nil λu=>by simp
     obtain⟨Bt,pF,AW⟩:=cQ.gone af hf (aQ.2 ⟨d,oM,rfl⟩) (H.qB d oM).2.lt ak aO a2 bA;have ah2:=AW.len Bi;have Io:ox Bt A<ox live R:=by
      unfold ox;have:(Bt+1)*65<=live*65:=Nat.mul_le_mul_right _ pF;omega
     apply UT;rw[dx (by omega)];exact aN (i+1) (e4 hi) Bt A true AW (by omega) (λ_=>by omega) (λh=>by cases h)
   .rw [cz];constructor
    .intro h;cases h
    .rintro ⟨_,p,q,r,s,I,_⟩;omega
 apply bE;rw[if_pos rfl];exact ago fds 0 rfl live R false cQ vj (λh=>by cases h) (λ_ q d au=>absurd au (dn q))
def bp(H:hJ n fds aR)(U:x<2^32):∃live R,lQ n fds aR x live R/\C n fds aR x (ed R):=by
 have ao:=H.nr;obtain⟨r,⟨live,R,I,rfl⟩,aa⟩:=bj n fds aR x (λr=>∃live R,lQ n fds aR x live R/\r=ed R) (by
  refine⟨by omega,?_⟩;rw[Li (by omega),sz (hg (acH (by omega))) (hg U)];have:=tB.bp (R:=[0]) (x:=bF (2^n-1) x) (by decide);refine⟨_,this,?_⟩;have aii:nG (fds.map gV) (bd n fds aR x) (mZ n x) (mZ n x) (if bF (2^n-1) x∈[0]then[0]else[0]++[bF (2^n-1) x]):=by
   have eE:∀u,u∈(if bF (2^n-1) x∈[0]then[0]else[0]++[bF (2^n-1) x])↔u=0∨u=mZ n x:=by
    intro u;unfold mZ
    split
    .rename_i h;simp only[bB]at h⊢;rw[h];simp
    .simp
   refine⟨?_,?_⟩
   .split
    .simp
    .rename_i h;simp only[bB]at h;simp[Ne.symm h]
   .constructor
    .exact (eE _).2 (.inl rfl)
    .exact (eE _).2 (.inr rfl)
    .intro r hr i hi;rcases(eE r).1 hr with rfl|rfl
     .rw [cz]at hi;cases hi
     .exact hi
    .exact λi hi=>hi
    .intro r hr b ag;rcases(eE r).1 hr with rfl|rfl
     .exact .inl λi _ _=>cz i
     .exact .inr λi _ h=>h
    .intro i I aa;rw[I]at aa;cases aa
  exact loop H (λlive R h=>⟨live,R,h,rfl⟩) _ _ _ aii (du _))
 exact⟨live,R,I,aa⟩
end Ft
end
section
variable{n x:Nat}{fds:List bC}{aR:List br}
def TK{n:Nat}(h:hy (n:Int) fds aR=0):UJ n fds/\∀m∈aR,gX n m.bX m.bZ=true:=by
 unfold hy at h
 split at h
 .rename_i aO;have I:=adj aO;rw[cD]at I;refine⟨I,?_⟩
  split at h
  .cases h
  .split at h
   .rename_i aa;rw[gj]at aa;intro m hm;have:=aa m hm
    rwa [cD]at this
   .cases h
 .rename_i aO;exact absurd h aO
def acr{a b:Nat}(h:hJ n fds aR)(av:rA n fds aR)(aC:a<2^n)(ag:b<2^n):EV (n:Int) fds aR (a:Int) (b:Int)=0:=by
 have ao:=h.nr;unfold EV;have av:hy (n:Int) fds aR=0:=av;rw[if_pos av,if_neg (by omega),if_pos];unfold gX;rw[kO,kO,cD,decide_eq_true aC,decide_eq_true ag];rfl
def lQ.right(h:hJ n fds aR)(av:rA n fds aR){live:Nat}{R:List Nat}(ad:lQ n fds aR x live R):(∀d∈fds,qq (hX n R) (bh d.bX) (bh d.bZ))/\∀m∈aR,gX (hX n R).bl.length m.bX m.bZ=true/\sQ (hX n R) (bh m.bX) (bh m.bZ):=by
 have ao:=h.nr;have hlen:=ad.len ao;obtain⟨v1,v2⟩:=TK av;refine⟨λd ah=>?_,λm hm=>?_⟩
 .rw [abX (by omega) (by omega) (v1 d ah).1 (v1 d ah).2];exact λu v hu Ov aC=>ad.done.fd (gV d) (aQ.2 ⟨d,ah,rfl⟩) u v hu Ov aC
 .have ch:=v2 m hm;refine⟨by rw[uf (by omega)];exact ch,?_⟩;unfold gX at ch;rw[hF,decide_eq_true_eq,decide_eq_true_eq]at ch;exact ac9 (m:=en m) (by omega) ch.1 ch.2 λu v hu Ov aC=>ad.done.mv (en m) (aQ.2 ⟨m,hm,rfl⟩) u v hu Ov aC
end
section
variable{n x:Nat}{fds:List bC}{aR:List br}
def lQ.Xa(h:hJ n fds aR)(U:x<2^n){y live:Nat}{R:List Nat}(ad:lQ n fds aR x live R)(hZ:¬lW n fds aR x y=true):¬sQ (hX n R) x y:=by
 have ao:=h.nr;intro hm;refine hZ ((ad.Na h).1 ?_);obtain⟨i0,aO⟩:=bo ad.rows.2.zero;obtain⟨i1,I⟩:=bo ad.rows.2.top;have iG:=(ba.1 aO).1;have l1:=(ba.1 I).1;have Wt:∀a,x.testBit a=true->live.testBit a=false:=λa aC=>by
  cases au:live.testBit a with
  |false=>rfl
  |true=>
   have:=ad.rows.2.r9 a au;unfold mZ at this;rw[fa,aC]at this;simp at this
 have dB:∀a,x.testBit a=true->nN (hX n R) i0 i1 a:=λa aC=>by
  rw[zW aO I (lN.1 U a aC),cz,Wt a aC]
 obtain⟨j,aH,aT,a5⟩:=hm i0 i1 (by rw[x1];exact iG) (by rw[x1];exact l1) dB;rw[x1]at aH;obtain⟨u,hu,Bk⟩:=Di aH;have:u=bF live (x ||| y):=by
  apply fB;intro a;by_cases oK:a<n
  .by_cases ag:(x ||| y).testBit a=true
   .have:=(zW hu aO oK).1 (aT a ag);rw[this,cz,fa,ag];simp
   .have ag:(x ||| y).testBit a=false:=by simpa using ag
    have:=(zW hu I oK).1 (a5 a (by rw[uf (by omega)];exact oK) ag);rw[this,fa,ag];simp
  .have t1:u.testBit a=false:=ie (aM (ad.lt ao Bk) (a6 (by decide) (by omega)));have t2:live.testBit a=false:=ie (aM (ad.akM ao) (a6 (by decide) (by omega)));rw[t1,fa,t2];rfl
 rw[<-this];exact Bk
def zo.bp(h:hJ n fds aR)(av:rA n fds aR){y:Nat}(U:x<2^n)(aw:y<2^n):(lW n fds aR x y=true/\zo.C n fds aR ⟨x,y⟩ (UD,10))∨(¬lW n fds aR x y=true/\∃live R,lQ n fds aR x live R/\zo.C n fds aR ⟨x,y⟩ (hX n R,0)):=by
 have ao:=h.nr;have uY:=h.ns;obtain⟨live,R,ad,cP⟩:=Ft.bp (x:=x) h (aM U uY);have hlen:=ad.len ao;have Ws:=B5.bp (n:=(n:Int)) h.qB h.vp (a:=(x:Int)) (b:=(y:Int)) (dz.of (aM U uY)) (dz.of (aM aw uY));rw[acr h av U aw]at Ws;obtain⟨r,I,aa⟩:=zo.bj n fds aR ⟨x,y⟩ (λr=>r=if lW n fds aR x y=true then(UD,10)else(hX n R,0)) (by
  refine⟨_,Ws,?_⟩;rw[if_pos rfl];refine⟨_,oZ.bp h av U aw,?_⟩;by_cases aO:lW n fds aR x y=true
  .rw [if_pos aO,if_pos aO];rfl
  .rw [if_neg aO,if_neg aO]
   exact⟨_,cP,_,oc.all (by omega) (λr hr=>aM (ad.lt ao hr) uY) (by omega),rfl⟩)
 by_cases aO:lW n fds aR x y=true
 .rw [if_pos aO]at I;rw[I]at aa;exact .inl ⟨aO,aa⟩
 .rw [if_neg aO]at I;rw[I]at aa;exact .inr ⟨aO,live,R,ad,aa⟩
def K3{R:List Nat}:rz (hX n R):=by
 intro r hr v av;obtain⟨i,hi⟩:=bo hr;have hi:(mz n R 0)[i]?=some r:=hi;rw[Gq]at hi;obtain⟨u,_,rfl⟩:=Option.map_eq_some_iff.1 hi;have av:v∈od n u:=av;obtain⟨a,_,rfl⟩:=aQ.1 av;unfold uu DF;cases u.testBit a<;>exact⟨by decide,by decide⟩
def lQ.check(h:hJ n fds aR)(av:rA n fds aR)(U:x<2^n){y live:Nat}(aw:y<2^n){R:List Nat}(ad:lQ n fds aR x live R)(hZ:¬lW n fds aR x y=true):Dr (hX n R) fds aR ⟨x,y⟩=true:=by
 have ao:=h.nr;have hlen:=ad.len ao;have H5:=LD (n:=n) (R:=R) (by omega) (by omega);obtain⟨r1,r2⟩:=ad.right h av;have ag:hy ((hX n R).bl.length:Int) fds aR=0:=by rw[uf (by omega)];exact av
 have cg:rr (hX n R) fds aR=true:=Gb.2 ⟨r1,λm hm=>(r2 m hm).2⟩;have hi:gX (hX n R).bl.length (x:Int) (y:Int)=true:=by
  rw[uf (by omega)];unfold gX;rw[kO,kO,decide_eq_true U,decide_eq_true aw];rfl
 unfold Dr;rw[decide_eq_true (xV.2 H5),decide_eq_true ag,cg,hi,kO,kO,LQ (ad.Xa h U hZ)];rfl
end
namespace HM
def again{J:Bool->Prop}(h:J true):aJ J:=bE J ⟨true,vz.bp,h⟩
def aky{n:Nat}{fds:List bC}{aR:List br}(H:hJ n fds aR)(V:rA n fds aR):Ho n fds aR:=by
 obtain⟨v1,v2⟩:=TK V;have f64:=H.f64;have m64:=H.m64;refine⟨λd ah=>?_,λd ah=>?_,by omega,by omega⟩
 .have hf:=H.qB d ah;have:=v1 d ah;exact⟨hf.1,hf.2,this.1,this.2⟩
 .have hm:=H.vp d ah;have:=v2 d ah;unfold gX at this;rw[hF,decide_eq_true_eq,decide_eq_true_eq]at this;exact⟨hm.1,hm.2,this.1,this.2⟩
def bp(x:uS)(d:jj)(eL:0<=x.D.N/\x.D.N<256)(cq:ye x.D.L)(bW:ye x.M)(I:x.D.L.length<=4000000)(aa:x.M.length<=4000000)(ah:(0<=d.L/\d.L<256)/\0<=d.R/\d.R<256):C x d true:=by
 obtain⟨r,aT,a5⟩:=bj x d (λr=>r=true) (by
  refine⟨_,B3.exact eL cq bW I aa,true,vz.bp,?_⟩;rw[if_pos rfl];by_cases cm:x.D.L.length<=6/\x.M.length<=4
  .rw [if_pos (decide_eq_true cm)];have ao:=GL (N:=x.D.N);have H:=afP (n:=lT x.D.N) ao cm.1 cm.2;have V:=af0 (n:=lT x.D.N) ao cm.1 cm.2;generalize lT x.D.N=n at *;generalize hf:im n x.D.L=fds at *;generalize ak:oW (im n x.M)=aR at *;generalize decide (x.D.L.length<=6/\x.M.length<=4)=ok;by_cases bO:5<(n:Int)
   .rw [if_pos bO];exact again rfl
   rw[if_neg bO];refine⟨_,sj.bp (n:=n) (L:=[d]) (by omega) (λx U=>by rw[bB.1 U];exact ah) (by simp),(⟨((bh d.L &&& (2^n-1):Nat):Int),((bh d.R &&& (2^n-1):Nat):Int)⟩:br),rfl,?_⟩;generalize au:bh d.L &&& (2^n-1)=q;generalize hr:bh d.R &&& (2^n-1)=r;have y6:q<2^n:=by rw[<-au];exact wb
   have tp:r<2^n:=by rw[<-hr];exact wb
   have uY:=H.ns;have o5:=dz.of (aM y6 uY);have q5:=dz.of (aM tp uY);refine⟨_,oZ.bp H V y6 tp,_,sk.bp H V (aky H V) y6 tp,?_⟩;rw[if_pos rfl,if_pos rfl,if_pos rfl];rcases zo.bp H V y6 tp with⟨aO,cP⟩|⟨aO,live,R,ad,cP⟩
   .refine ⟨_,cP,?_⟩;rw[if_pos aO];rfl
   .refine ⟨_,cP,?_⟩;rw[if_neg aO];have hlen:=ad.len ao;have H5:=LD (n:=n) (R:=R) (by omega) (by omega);obtain⟨r1,r2⟩:=ad.right H V;have ajw:=ad.Xa H y6 aO;have ae:uA (hX n R) fds aR=(true,0):=by
     have ag:hy ((hX n R).bl.length:Int) fds aR=0:=by rw[uf (by omega)];exact V
     unfold uA;rw[if_pos (xV.2 H5),if_pos ag,Gb.2 ⟨r1,λm hm=>(r2 m hm).2⟩]
    have hi:gX (hX n R).bl.length (q:Int) (r:Int)=true:=by
     rw[uf (by omega)];unfold gX;rw[kO,kO,decide_eq_true y6,decide_eq_true tp];rfl
    have aU:uj (hX n R) ⟨(q:Int),(r:Int)⟩=(false,0):=by
     unfold uj Ai;rw[if_pos (xV.2 H5),if_pos hi,kO,kO,LQ ajw]
    have ck:=B6.bp (t:=hX n R) K3 H.qB H.vp (g:=⟨(q:Int),(r:Int)⟩) o5 q5;refine⟨_,vu.bp K3 (m:=⟨(q:Int),(r:Int)⟩) o5 q5,_,o0.bp K3 H.qB H.vp,?_⟩;rw[aU,ae,if_pos rfl,if_pos rfl,if_pos rfl,if_neg fR,if_pos rfl];exact⟨_,ck,ad.check H V y6 tp aO⟩
  .rw [if_neg (by rw[decide_eq_true_eq];exact cm)]
   exact again rfl)
 subst aT;exact a5
def law{xs:List D}(U:yg env.P Ye Yf xs)(hw:jD xs<=1048576):bR env Yd xs (.lit (.bool true)) []:=by
 obtain⟨ab,ai,aO,I,e⟩:=Yc (P:=env.P) alD U;rw[e]at hw⊢;have hlen:ab.D.L.length<=4000000/\ab.M.length<=4000000:=by
  have I:=Ls (ab.D.L.map jV);have aa:=Ls (ab.M.map jV);rw[cT]at I aa;simp only[JB,jD,wt]at hw;omega
 exact bp ab ai (yl aO.1.1) (λx U=>⟨yl (aO.1.2.2 x U).1,yl (aO.1.2.2 x U).2⟩) (λx U=>⟨yl (aO.2.2 x U).1,yl (aO.2.2 x U).2⟩) hlen.1 hlen.2 ⟨yl I.1,yl I.2⟩
end HM
end Go.aS
