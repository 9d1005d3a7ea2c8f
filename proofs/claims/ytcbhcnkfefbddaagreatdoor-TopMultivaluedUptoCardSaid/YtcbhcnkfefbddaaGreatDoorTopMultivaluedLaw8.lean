/- What the functions answer. No conditions. -/
import Derived.Laws.Strings
import Derived.Test.YtcbhcnkfefbddaaGreatDoorTopMultivaluedLaw5
import Derived.Test.YtcbhcnkfefbddaaGreatDoorBase2
set_option linter.all false
open List renaming pairwise_cons->aA,mem_cons->aM,mem_flatMap->du,length_cons->dR,mem_filter->eb,foldl_cons->fx
open Nat renaming eq_of_testBit_eq->aQ,testBit_xor->a6,testBit_or->bo,testBit_lt_two_pow->bB,pow_le_pow_right->bL,lt_of_lt_of_le->b3,testBit_two_pow_mul_add->b5,lt_of_le_of_lt->cc,zero_testBit->cz,testBit_add_one->cD,lt_trichotomy->c_,testBit_and->eW
open Bool renaming and_eq_true->ba,true_and->cx,not_eq_false'->cA,not_eq_true'->dn
open List.Pairwise renaming nil->cu
open Int renaming toNat_natCast->cT
namespace Go.aS
def nY(a b:Int):Int:=if a<b then -1 else if b<a then 1 else 0
def down{n:Nat}{P:Nat -> Prop}(aO:P n)(ae:∀k,k<n -> P (k+1) -> P k):∀k,k <= n -> P k:=by
  have:∀m k,k+m=n -> P k:=by
    intro m
    induction m with
    | zero => intro k aj; have : k = n := by omega
              subst this;exact aO
    |succ m aN=>intro k aj;exact ae k (by omega) (aN (k+1) (by omega))
  intro k aj;exact this (n-k) k (by omega)
def Ak{O:Type}(p:O->Bool):List O->Nat->Int
 |[],_=>-1
 |a::r,k=>if p a=true then(k:Int)else Ak p r (k+1)
def tu{O:Type}(p:O->Bool)(l:List O):Int:=Ak p l 0
def RA{O:Type}{p:O->Bool}:∀{l:List O}{k:Nat},decide (0<=Ak p l k)=l.any p
 |[],_=>rfl
 |a::r,k=>by
  simp only[Ak,List.any_cons]
  split
  .rename_i h;simp[h]
  .rename_i h;rw[RA,Bool.eq_false_iff.2 h];simp
def LM{O:Type}{p:O->Bool}{l:List O}:decide (0<=tu p l)=l.any p:=RA
def Kl{O:Type}{l:List O}{p:O -> Bool}{L:Int -> Prop}{J:Int -> Prop}(stop:J (-1) -> L (l.length:Int))
    (step:∀(k:Nat) a,l[k]?=some a -> k<l.length -> (if p a=true then J (k:Int)else L ((k+1:Nat):Int)) -> L k) (h:J (tu p l)):L 0:=by
  have:∀(r:List O)(k:Nat),l.drop k=r -> k <= l.length -> J (Ak p r k) -> L k:=by
    intro r
    induction r with
    | nil => intro k ah aj h; have : k = l.length := by have := gd ah; omega
             subst this;exact stop h
    |cons a r aN=>
      intro k ah aj h;have bU:=gl ah;refine step k a (eO ah) bU ?_;simp only[Ak]at h
      split
      · rename_i af;rw[if_pos af]at h;exact h
      · rename_i af;rw[if_neg af]at h;exact aN (k+1) (e4 ah) bU h
  exact this l 0 rfl (Nat.zero_le _) h
def KZ{O:Type}{l:List O}{p:O -> Bool}{L:Int -> Prop}{J:Bool -> Prop}(stop:J true -> L (l.length:Int))
    (step:∀(k:Nat) a,l[k]?=some a -> k<l.length -> (if p a=true then L ((k+1:Nat):Int)else J false) -> L k) (h:J (l.all p)):L 0:=by
  have:∀(r:List O)(k:Nat),l.drop k=r -> k <= l.length -> J (r.all p) -> L k:=by
    intro r
    induction r with
    | nil => intro k ah aj h; have : k = l.length := by have := gd ah; omega
             subst this;exact stop h
    |cons a r aN=>
      intro k ah aj h;have bU:=gl ah;refine step k a (eO ah) bU ?_;simp only[List.all_cons]at h
      split
      · rename_i af;rw[af,cx]at h;exact aN (k+1) (e4 ah) bU h
      · rename_i af
        have af:p a=false:=by simpa using af
        rw[af,Bool.false_and]at h;exact h
  exact this l 0 rfl (Nat.zero_le _) h
def hG{O:Type}{l:List O}{k:Nat}{a:O}(h:l[k]?=some a):a_ l (k:Int)=some a:=by rw[gP];exact h
def Au{s:ByteArray}:s.toList=s.data.toList:=ByteArray.toList_eq s
def Dh{a b:ByteArray}:a.toList=b.toList↔a=b:=by
 constructor
 .intro h;rw[Au,Au]at h;obtain⟨⟨a⟩⟩:=a;obtain⟨⟨b⟩⟩:=b;simp only at h;rw[h]
 .rintro rfl;rfl
def zX{s:ByteArray}:qi s=(s.toList.length:Int):=by
 rw[Au];rfl
def agK{s:ByteArray}{i:Nat}:s[i]?=s.toList[i]?:=by
 rw[Au];by_cases h:i<s.size
 .rw [getElem?_pos s i h,List.getElem?_eq_getElem (by exact h)];rfl
 .rw [getElem?_neg s i h,List.getElem?_eq_none (by simpa using h)]
def LB{s:ByteArray}{k:Nat}{b:UInt8}(h:s.toList[k]?=some b):(0:Int)<=(k:Int)/\s[((k:Nat):Int).toNat]?=some b:=⟨by omega,by rw[cT,agK];exact h⟩
def Hc{l:List UInt8}:(⟨l.toArray⟩:ByteArray).toList=l:=by rw[Au]
def LC{l:List UInt8}:(rE l).toList=l:=Hc
def afX{b:UInt8}:0<=eN b/\eN b<256:=by
 unfold eN;have:=b.toNat_lt;omega
def T7{a b:UInt8}:eN a=eN b↔a=b:=by
 unfold eN;constructor
 .intro h;exact UInt8.toNat_inj.1 (by omega)
 .rintro rfl;rfl
def aas{l m:List Nat}(hl:l.Pairwise (·<·))(hm:m.Pairwise (·<·))(h:∀x,x∈l↔x∈m):l=m:=by
 induction l generalizing m with
 |nil=>
  cases m with
  |nil=>rfl
  |cons b m=>have:=(h b).2 (by simp);simp at this
 |cons a l aN=>
  cases m with
  |nil=>have:=(h a).1 (by simp);simp at this
  |cons b m=>
   have aC:=aA.1 hl;have ag:=aA.1 hm;have e:a=b:=by
    rcases aM.1 ((h a).1 (by simp))with I|I
    .exact I
    .rcases aM.1 ((h b).2 (by simp))with aa|aa
     .exact aa.symm
     .have:=ag.1 a I;have:=aC.1 b aa;omega
   subst e;rw[aN aC.2 ag.2];intro x;constructor
   .intro U;rcases aM.1 ((h x).1 (by simp[U]))with I|I
    .subst I;have:=aC.1 x U;omega
    .exact I
   .intro U;rcases aM.1 ((h x).2 (by simp[U]))with I|I
    .subst I;have:=ag.1 x U;omega
    .exact I
def fb(n:Nat):List Nat:=(List.range 32).filter λi=>n.testBit i
def oj{n i:Nat}(h:n<2^32):i∈fb n↔n.testBit i=true:=by
 unfold fb;simp only[eb,List.mem_range];constructor
 .exact λh=>h.2
 .intro hi;refine⟨?_,hi⟩
  false_or_by_contra
  rename_i ao;rw[bB (b3 h (bL (by decide) (by omega)))]at hi;cases hi
def JM{n:Nat}:(fb n).Pairwise (·<·):=List.pairwise_lt_range.filter _
def xT{n:Nat}:(fb n).length<=32:=Nat.le_trans (List.length_filter_le _ _) (by simp)
def Zb:fb 0=[]:=by
 unfold fb;rw[List.filter_eq_nil_iff];simp
def Tz{x:Nat}:∀{n k:Nat},(∀j,j<k->x.testBit j=false)->(∃j,j<n+k/\x.testBit j=true)->x.testBit (kN x n k)=true/\∀j,j<kN x n k->x.testBit j=false
 |0,k,h,⟨j,I,aa⟩=>by rw[h j (by omega)]at aa;cases aa
 |n+1,k,h,⟨j,I,aa⟩=>by
  simp only[kN]
  split
  .rename_i aj;exact⟨aj,h⟩
  .rename_i aj;refine Tz (λi hi=>?_) ⟨j,by omega,aa⟩;by_cases A5:i=k
   .subst A5;simpa using aj
   .exact h i (by omega)
def aeu{n:Nat}(aO:n≠0)(h:n<2^32):∃j,j<32/\n.testBit j=true:=by
 obtain⟨j,aH⟩:=Nat.exists_testBit_of_ne_zero aO;exact⟨j,by have:=(oj h).2 aH;unfold fb at this;simpa using(eb.1 this).1,aH⟩
def aaN{n i:Nat}(hi:n.testBit i=true)(hl:∀j,j<i->n.testBit j=false)(j:Nat):(n &&& (n-1)).testBit j=(n.testBit j&&decide (j≠i)):=by
 have e:n=2^i*(2*(n / 2^(i+1))+1):=by
  have I:n%2^i=0:=by
   apply aQ;intro j;rw[Nat.testBit_mod_two_pow,cz];by_cases aH:j<i
   .rw [hl j aH];simp
   .simp [aH]
  have aa:n / 2^i%2=1:=by rw[Nat.testBit_eq_decide_div_mod_eq]at hi;simpa using hi
  have aB:=Nat.div_add_mod n (2^i);have aW:n / 2^(i+1)=n / 2^i / 2:=by rw[Nat.pow_succ,Nat.div_div_eq_div_mul]
  rw[aW];have bO:2*(n / 2^i / 2)+1=n / 2^i:=by omega
  rw[bO];omega
 generalize hm:n / 2^(i+1)=m at e;have af:0<2^i:=Nat.pos_of_ne_zero (by simp);have aT:n-1=2^i*(2*m)+(2^i-1):=by rw[e,Nat.mul_add];omega
 have a5:n=2^i*(2*m+1)+0:=by rw[e];rfl
 rw[eW,aT,b5 _ (by omega)];by_cases I:j<i
 .rw [hl j I];rfl
 .rw [if_neg I];by_cases aa:j=i
  .subst aa;simp[Nat.testBit_zero]
  .have aB:(2*m).testBit (j-i)=n.testBit j:=by
    rw[a5,b5 _ (by omega),if_neg I];obtain⟨q,au⟩:∃q,j-i=q+1:=⟨j-i-1,by omega⟩
    rw[au,cD,cD];congr 1;omega
   rw[aB];simp[aa]
def Za{n:Nat}(aO:n≠0)(h:n<2^32):fb n=kN n 32 0::fb (n &&& (n-1)):=by
 obtain⟨I,aa⟩:=Tz (x:=n) (n:=32) (k:=0) (λj aH=>by omega) (by simpa using aeu aO h);have bU:(n &&& (n-1))<2^32:=cc Nat.and_le_left h;have ag:=aaN I aa;refine aas JM ?_ λx=>?_
 .refine aA.2 ⟨λy aw=>?_,JM⟩;rw[oj bU,ag]at aw;simp only[ba,decide_eq_true_eq]at aw;rcases c_ y (kN n 32 0)with aB|aB|aB
  .rw [aa y aB]at aw;cases aw.1
  .exact absurd aB aw.2
  .exact aB
 .rw [aM,oj h,oj bU,ag];simp only[ba,decide_eq_true_eq];by_cases U:x=kN n 32 0
  .simp [U,I]
  .simp [U]
def ab1{n:Nat}(aO:n≠0):(n &&& (n-1))<n:=by
 have:=Nat.and_le_right (n:=n) (m:=n-1);omega
def wE(k:Nat):Nat:=2^min k 32-1
def Vj(d:Nat×Nat):List (Nat×Nat):=(fb d.2).map λa=>(d.1,2^a)
def qh(fds aR:List (Nat×Nat)):List (Nat×Nat):=aR++fds.flatMap Vj
def gr(m:Nat×Nat)(r s:Nat):Nat:=(r &&& (m.1 ||| m.2)) ||| bF s (m.1 ||| m.2)
def gf(l r s:Nat):Prop:=∀i,l.testBit i=true->r.testBit i=s.testBit i
def ZF{l r s:Nat}:(r ^^^ s) &&& l=0↔gf l r s:=by
 rw[kJ];constructor
 .intro h i hl;cases au:(r ^^^ s).testBit i with
  |true=>rw[h i au]at hl;cases hl
  |false=>rw[a6]at au;revert au;cases r.testBit i<;>cases s.testBit i<;>simp
 .intro h i U;cases hl:l.testBit i with
  |false=>rfl
  |true=>rw[a6,h i hl]at U;simp at U
def p8{m:Nat×Nat}{r s i:Nat}:(gr m r s).testBit i=if(m.1 ||| m.2).testBit i=true then r.testBit i else s.testBit i:=by
 unfold gr;rw[bo,eW,fa];cases(m.1 ||| m.2).testBit i<;>simp
def rk{i j:Nat}:(2^i).testBit j=decide (i=j):=Nat.testBit_two_pow
structure pk(fds:List (Nat×Nat))(bs:List Nat)(rest live:Nat)(T:Nat->Prop):Prop where
 zero:T 0
 top:T live
 sub:∀r,T r->∀i,r.testBit i=true->live.testBit i=true
 r9:∀i,live.testBit i=true->rest.testBit i=true
 bd:∀r,T r->∀b∈bs,(∀i,b.testBit i=true->live.testBit i=true->r.testBit i=false)∨(∀i,b.testBit i=true->live.testBit i=true->r.testBit i=true)
 dead:∀i,rest.testBit i=true->live.testBit i=false->2^i∈bs/\∃d∈fds,d.2.testBit i=true/\d.1.testBit i=false
def pk.whole{fds:List (Nat×Nat)}{bs:List Nat}{rest live:Nat}{T:Nat->Prop}(h:pk fds bs rest live T)(af:hI rest bs){b:Nat}(ag:b∈bs):(∀i,b.testBit i=true->live.testBit i=true)∨(∃j,b=2^j/\live.testBit j=false):=by
 by_cases au:∃i,b.testBit i=true/\live.testBit i=false
 .obtain ⟨i,I,aa⟩:=au;obtain⟨aB,_⟩:=h.dead i ((af.all i).2 ⟨b,ag,I⟩) aa;exact .inr ⟨i,Uk af ag aB I (by rw[rk];simp),aa⟩
 .refine .inl λi hi=>?_;cases hl:live.testBit i with
  |true=>rfl
  |false=>exact absurd ⟨i,hi,hl⟩ au
def pk.same{fds:List (Nat×Nat)}{bs:List Nat}{rest live:Nat}{T:Nat->Prop}(h:pk fds bs rest live T){b:Nat}(ag:b∈bs){r s:Nat}(hr:T r)(ae:T s){i:Nat}(hi:b.testBit i=true)(hl:live.testBit i=true)(he:r.testBit i=s.testBit i):∀j,b.testBit j=true->r.testBit j=s.testBit j:=by
 intro j aH;cases ti:live.testBit j with
 |false=>
  have I:r.testBit j=false:=by
   cases au:r.testBit j with
   |false=>rfl
   |true=>rw[h.sub r hr j au]at ti;cases ti
  have aa:s.testBit j=false:=by
   cases au:s.testBit j with
   |false=>rfl
   |true=>rw[h.sub s ae j au]at ti;cases ti
  rw[I,aa]
 |true=>
  rcases h.bd r hr b ag with I|I<;>rcases h.bd s ae b ag with aa|aa
  .rw [I j aH ti,aa j aH ti]
  .rw [I i hi hl,aa i hi hl]at he;cases he
  .rw [I i hi hl,aa i hi hl]at he;cases he
  .rw [I j aH ti,aa j aH ti]
def pk.mv{fds:List (Nat×Nat)}{bs:List Nat}{rest live:Nat}{T:Nat->Prop}(h:pk fds bs rest live T)(af:hI rest bs){m:Nat×Nat}(hm:∀b∈bs,hS m b=false){r s:Nat}(hr:T r)(ae:T s)(aC:gf m.1 r s):pk fds bs rest live (λu=>T u∨u=gr m r s) where
 zero:=.inl h.zero
 top:=.inl h.top
 r9:=h.r9
 dead:=h.dead
 sub:=by
  rintro u (hu|rfl) i hi
  .exact h.sub u hu i hi
  .rw [p8]at hi
   split at hi
   .exact h.sub r hr i hi
   .exact h.sub s ae i hi
 bd:=by
  rintro u (hu|rfl) b ag
  .exact h.bd u hu b ag
  .rcases h.whole af ag with hw|⟨j,rfl,aH⟩
   .have ao:=hm b ag;have ao:¬(b &&& m.1=0/\b &&& m.2≠0/\bF b m.2≠0):=λau=>by rw[zP.2 au]at ao;cases ao
    by_cases I:b &&& m.1=0
    .by_cases aa:b &&& m.2=0
     .have:∀i,b.testBit i=true->(gr m r s).testBit i=s.testBit i:=λi hi=>by
       rw[p8,bo,kJ.1 I i hi,kJ.1 aa i hi];rfl
      rcases h.bd s ae b ag with au|au
      .exact .inl λi I aa=>by rw[this i I];exact au i I aa
      .exact .inr λi I aa=>by rw[this i I];exact au i I aa
     .have aB:bF b m.2=0:=Classical.byContradiction λau=>ao ⟨I,aa,au⟩;have:∀i,b.testBit i=true->(gr m r s).testBit i=r.testBit i:=λi hi=>by
       rw[p8,bo,CD.1 aB i hi,Bool.or_true,if_pos rfl]
      rcases h.bd r hr b ag with au|au
      .exact .inl λi I aa=>by rw[this i I];exact au i I aa
      .exact .inr λi I aa=>by rw[this i I];exact au i I aa
    .obtain ⟨i,hi,hl⟩:=L2.1 I;have aj1:=h.same ag hr ae hi (hw i hi) (aC i hl);have:∀i,b.testBit i=true->(gr m r s).testBit i=r.testBit i:=λi hi=>by
      rw[p8,<-aj1 i hi];simp
     rcases h.bd r hr b ag with au|au
     .exact .inl λi I aa=>by rw[this i I];exact au i I aa
     .exact .inr λi I aa=>by rw[this i I];exact au i I aa
   .refine .inl λi I aa=>?_;rw[rk,decide_eq_true_eq]at I;subst I;rw[aH]at aa;cases aa
def pk.fd{fds aR:List (Nat×Nat)}{bs:List Nat}{rest live:Nat}{T:Nat->Prop}(h:pk fds bs rest live T)(af:hI rest bs)(hf:wK (qh fds aR) bs){d:Nat×Nat}(ah:d∈fds)(Ec:d.2<2^32){D:Nat}(hB:∀i,D.testBit i=true->d.2.testBit i=true/\∃r s,T r/\T s/\gf d.1 r s/\r.testBit i≠s.testBit i):pk fds bs rest (bF live D) (λu=>∃r,T r/\u=bF r D):=by
 have key:∀i,D.testBit i=true->2^i∈bs/\d.2.testBit i=true/\d.1.testBit i=false:=by
  intro i hi;obtain⟨I,r,s,hr,ae,aC,cI⟩:=hB i hi;have hl:live.testBit i=true:=by
   cases au:r.testBit i with
   |true=>exact h.sub r hr i au
   |false=>
    cases pK:s.testBit i with
    |true=>exact h.sub s ae i pK
    |false=>rw[au,pK]at cI;exact absurd rfl cI
  have NA:d.1.testBit i=false:=by
   cases au:d.1.testBit i with
   |false=>rfl
   |true=>exact absurd (aC i au) cI
  obtain⟨b,ag,g8⟩:=(af.all i).1 (h.r9 i hl);have aO:b &&& d.1=0:=by
   rw[kJ];intro j aH;cases au:d.1.testBit j with
   |false=>rfl
   |true=>
    have ti:live.testBit j=true:=by
     rcases h.whole af ag with hw|⟨k,rfl,aj⟩
     .exact hw j aH
     .rw [rk,decide_eq_true_eq]at g8;subst g8;rw[hl]at aj;cases aj
    exact absurd (h.same ag hr ae aH ti (aC j au) i g8) cI
  have eE:(d.1,2^i)∈qh fds aR:=List.mem_append_right _ (du.2 ⟨d,ah,List.mem_map.2 ⟨i,(oj Ec).2 I,rfl⟩⟩);have WM:=hf _ eE b ag;have ajB:¬(bF b (2^i)≠0):=λau=>by
   have:=zP (m:=(d.1,2^i)) (b:=b) |>.2 ⟨aO,L2.2 ⟨i,g8,by rw[rk];simp⟩,au⟩
   rw[this]at WM;cases WM
  have eS:b=2^i:=by
   apply aQ;intro j;cases aH:(2^i).testBit j with
   |true=>rw[rk,decide_eq_true_eq]at aH;rw[<-aH];exact g8
   |false=>
    cases aix:b.testBit j with
    |false=>rfl
    |true=>exact absurd (acw.2 ⟨j,aix,aH⟩) ajB
  exact⟨eS ▸ ag,I,NA⟩
 constructor
 .exact ⟨0,h.zero,aQ λi=>by rw[fa];simp⟩
 .exact ⟨live,h.top,rfl⟩
 .rintro u ⟨r,hr,rfl⟩ i hi;rw[fa,ba]at hi⊢;exact⟨h.sub r hr i hi.1,hi.2⟩
 .intro i hi;rw[fa,ba]at hi;exact h.r9 i hi.1
 .rintro u ⟨r,hr,rfl⟩ b ag;rcases h.bd r hr b ag with au|au
  .refine .inl λi I aa=>?_;rw[fa,ba]at aa;rw[fa,au i I aa.1];rfl
  .refine .inr λi I aa=>?_;rw[fa,ba]at aa;rw[fa,au i I aa.1,aa.2];rfl
 .intro i I aa;rw[fa]at aa;cases hl:live.testBit i with
  |false=>exact h.dead i I hl
  |true=>
   rw[hl,cx,cA]at aa;obtain⟨a,b,c⟩:=key i aa;exact⟨a,d,ah,b,c⟩
structure yp(fds aR:List (Nat×Nat))(T:Nat->Prop):Prop where
 fd:∀d∈fds,∀r s,T r->T s->gf d.1 r s->gf d.2 r s
 mv:∀m∈aR,∀r s,T r->T s->gf m.1 r s->T (gr m r s)
def yc(rest:Nat):List Nat:=if rest=0 then[]else[rest]
def m_(fds aR:List (Nat×Nat))(rest:Nat):List Nat:=sH (qh fds aR) 40 (yc rest)
def Ga{rest:Nat}:hI rest (yc rest):=by
 unfold yc
 split
 .rename_i h;subst h;exact⟨by simp,cu,λi=>by simp⟩
 .rename_i h;exact⟨by simpa using h,by simp,λi=>by simp⟩
def La{fds aR:List (Nat×Nat)}{rest:Nat}(hr:rest<2^32):hI rest (m_ fds aR rest)/\wK (qh fds aR) (m_ fds aR rest):=KN hr Ga (by omega)
def yC(r s i:Nat):Prop:=r.testBit i=s.testBit i
def Ul:AA yC:=⟨λ_ _=>rfl,λh=>Eq.symm h,λh k=>Eq.trans h k⟩
def acS{fds aR:List (Nat×Nat)}{rest x:Nat}{T:Nat->Prop}(hr:rest<2^32)(oP:rest &&& x=0)(ah:∀d∈fds,d.2<2^32)(ad:yp fds aR T)(ae:∀r,T r->∀i,r.testBit i=true->rest.testBit i=true):
  ∀b∈m_ fds aR rest,pn T (λr s=>∀i,i<32->x.testBit i=true->yC r s i) yC 32 b:=by
 have hm:∀m∈qh fds aR,Dx T yC 32 m:=by
  have ext:∀{r s:Nat}{l:Nat},T r->T s->(∀i,i<32->l.testBit i=true->yC r s i)->gf l r s:=by
   intro r s l n9 ds h i hi;by_cases bU:i<32
   .exact h i bU hi
   .have:∀u,T u->u.testBit i=false:=λu hu=>by
     cases au:u.testBit i with
     |false=>rfl
     |true=>exact absurd (lN.1 hr i (ae u hu i au)) bU
    rw[this r n9,this s ds]
  intro m hm r s n9 ds h;rcases List.mem_append.1 hm with hm|hm
  .refine ⟨_,ad.mv m hm r s n9 ds (ext n9 ds h),λi _ hi=>?_,λi _ hi=>?_⟩
   .show (gr m r s).testBit i=_;rw[p8,if_pos hi]
   .show (gr m r s).testBit i=_;rw[p8,hi];rfl
  .obtain ⟨d,oM,hm⟩:=du.1 hm;obtain⟨a,aC,rfl⟩:=List.mem_map.1 hm;have aC:=(oj (ah d oM)).1 aC;have dB:=ad.fd d oM r s n9 ds (ext n9 ds h);refine⟨s,ds,λi hi au=>?_,λi _ _=>rfl⟩;rw[bo,Bool.or_eq_true]at au;rcases au with au|au
   .exact (h i hi au).symm
   .have:(2^a).testBit i=true:=au;rw[rk,decide_eq_true_eq]at this;subst this;exact(dB a aC).symm
 refine QS Ul (λ_ _=>Iff.rfl) oP hm Ga ?_;intro b ag r s n9 ds aC;have ag:b=rest:=by
  unfold yc at ag
  split at ag
  .cases ag
  .simpa using ag
 subst ag;refine⟨r,n9,aC,λ_ _ _=>rfl,λ_ _ _=>rfl,λi _ hi=>?_⟩;have:∀u,T u->u.testBit i=false:=λu hu=>by
  cases au:u.testBit i with
  |false=>rfl
  |true=>rw[ae u hu i au]at hi;cases hi
 show r.testBit i=s.testBit i;rw[this r n9,this s ds]
section
variable{fds aR:List (Nat×Nat)}{rest x live:Nat}{T:Nat->Prop}
def aea(hr:rest<2^32)(ae:∀r,T r->∀i,r.testBit i=true->rest.testBit i=true){u v:Nat}(hu:T u)(av:∀i,v.testBit i=true->rest.testBit i=true)(h:∀i,i<32->u.testBit i=v.testBit i):u=v:=by
 apply aQ;intro i;by_cases hi:i<32
 .exact h i hi
 .have I:u.testBit i=false:=by
   cases au:u.testBit i with
   |false=>rfl
   |true=>exact absurd (lN.1 hr i (ae u hu i au)) hi
  have aa:v.testBit i=false:=by
   cases au:v.testBit i with
   |false=>rfl
   |true=>exact absurd (lN.1 hr i (av i au)) hi
  rw[I,aa]
def QW(hr:rest<2^32)(oP:rest &&& x=0)(ah:∀d∈fds,d.2<2^32)(tc:pk fds (m_ fds aR rest) rest live T)(ad:yp fds aR T)(y:Nat):T (bF live (x ||| y))↔∀b∈m_ fds aR rest,b &&& y=0∨bF b y=0:=by
 have ae:∀r,T r->∀i,r.testBit i=true->rest.testBit i=true:=λr hr i hi=>tc.r9 i (tc.sub r hr i hi);have af:=(La (fds:=fds) (aR:=aR) hr).1;have OE:∀i,rest.testBit i=true->x.testBit i=false:=λi hi=>kJ.1 oP i hi;constructor
 .intro al b ag;rcases tc.whole af ag with hw|⟨j,rfl,aH⟩
  .rcases tc.bd _ al b ag with au|au
   .refine .inr (CD.2 λi hi=>?_);have:=au i hi (hw i hi);rw[fa,hw i hi,cx,cA,bo,OE i ((af.all i).2 ⟨b,ag,hi⟩),Bool.false_or]at this;exact this
   .refine .inl (kJ.2 λi hi=>?_);have:=au i hi (hw i hi);rw[fa,ba,dn,bo,Bool.or_eq_false_iff]at this;exact this.2.2
  .cases aw:y.testBit j with
   |true=>
    refine .inr (CD.2 λi hi=>?_);rw[rk,decide_eq_true_eq]at hi;rw[<-hi];exact aw
   |false=>
    refine .inl (kJ.2 λi hi=>?_);rw[rk,decide_eq_true_eq]at hi;rw[<-hi];exact aw
 .intro h;obtain⟨z,aG,W0⟩:=Ro Ul (λ_ _=>Iff.rfl) (λb=>decide (b &&& y≠0)) (acS hr oP ah ad ae);have dB:∀u v,T u->T v->∀i,i<32->x.testBit i=true->yC u v i:=λu v hu av i _ ze=>by
   have:∀w,T w->w.testBit i=false:=λw hw=>by
    cases au:w.testBit i with
    |false=>rfl
    |true=>rw[OE i (ae w hw i au)]at ze;cases ze
   show u.testBit i=v.testBit i;rw[this u hu,this v av]
  obtain⟨u,hu,_,_,aW,bO⟩:=aG 0 live tc.zero tc.top (dB 0 live tc.zero tc.top);have:u=bF live (x ||| y):=by
   refine aea hr ae hu (λi hi=>?_) λi hi=>?_
   .rw [fa,ba]at hi;exact tc.r9 i hi.1
   .rw [fa,bo];cases IK:z.testBit i with
    |true=>
     have I:u.testBit i=false:=by
      have:=aW i hi IK;unfold yC at this;rw[this,cz]
     obtain⟨b,ag,g8,nb⟩:=(W0 i).1 IK;rw[decide_eq_true_eq]at nb;have:=CD.1 ((h b ag).resolve_left nb) i g8;rw[I,this];simp
    |false=>
     have I:u.testBit i=live.testBit i:=bO i hi IK;rw[I];cases hl:live.testBit i with
     |false=>rfl
     |true=>
      have IB:=tc.r9 i hl;obtain⟨b,ag,g8⟩:=(af.all i).1 IB;have aw:y.testBit i=false:=by
       cases au:y.testBit i with
       |false=>rfl
       |true=>
        have:=(W0 i).2 ⟨b,ag,g8,decide_eq_true (L2.2 ⟨i,g8,au⟩)⟩;rw[IK]at this;cases this
      rw[OE i IB,aw];rfl
  rw[<-this];exact hu
end
def q3(n y j:Nat):Int:=if y.testBit j=true then((2*n+j:Nat):Int)else((n+j:Nat):Int)
def hU(n y r j:Nat):Int:=if r.testBit j=true then q3 n y j else(j:Int)
def dd(n y r:Nat):ay:=(List.range n).map (hU n y r)
def lb{n y r:Nat}:(dd n y r).length=n:=by simp[dd]
def rh{n y r j:Nat}(h:j<n):(dd n y r)[j]?=some (hU n y r j):=by
 unfold dd;rw[List.getElem?_map,List.getElem?_range h];rfl
def CG{n y j:Nat}(h:j<n):(n:Int)<=q3 n y j/\q3 n y j<3*n:=by
 unfold q3;split<;>omega
def Zh{n y r j:Nat}(h:j<n):0<=hU n y r j/\hU n y r j<3*n:=by
 unfold hU;have:=CG (y:=y) h
 split<;>omega
def acQ{n y i j:Nat}(hi:i<n)(aH:j<n)(h:q3 n y i=q3 n y j):i=j:=by
 unfold q3 at h
 split at h<;>split at h<;>omega
def vV{n y r s j:Nat}(h:j<n):hU n y r j=hU n y s j↔r.testBit j=s.testBit j:=by
 have:=CG (y:=y) h;unfold hU;cases hr:r.testBit j<;>cases ae:s.testBit j<;>simp<;>omega
def Lo{n y r s:Nat}(hr:r<2^n)(ae:s<2^n)(h:dd n y r=dd n y s):r=s:=by
 apply aQ;intro j;by_cases aH:j<n
 .have:=congrArg (λl=>l[j]?) h;simp only[rh aH,aE]at this;exact(vV aH).1 this
 .have af:2^n<=2^j:=bL (by decide) (by omega);rw[bB (by omega),bB (by omega)]
def CR{l r s a:Nat}:gf l (r ^^^ a) (s ^^^ a)↔gf l r s:=by
 unfold gf;constructor
 .intro h i hi;have:=h i hi;rw[a6,a6]at this
  revert this
  cases r.testBit i<;>cases s.testBit i<;>cases a.testBit i<;>decide
 .intro h i hi;rw[a6,a6,h i hi]
def Ua{m:Nat×Nat}{r s a:Nat}:gr m (r ^^^ a) (s ^^^ a)=gr m r s ^^^ a:=by
 apply aQ;intro i;rw[a6,p8,p8,a6,a6]
 split<;>rfl
def SP{r a D:Nat}:bF (r ^^^ a) D=bF r D ^^^ bF a D:=by
 apply aQ;intro i;rw[a6,fa,fa,fa,a6];cases r.testBit i<;>cases a.testBit i<;>cases D.testBit i<;>rfl
def agC(n y off:Nat)(T:Nat->Prop)(rows:aL):Prop:=∀x,x∈rows↔∃u,T u/\x=dd n y (u ^^^ off)
structure iO(n x y:Nat)(fds aR:List (Nat×Nat))(live:Nat)(T:Nat->Prop)(rows:aL):Prop where
 ci:pk fds (m_ fds aR (bF (2^n-1) x)) (bF (2^n-1) x) live T
 tab:agC n y (bF live (x ||| y)) T rows
section
variable{n x y live:Nat}{fds aR:List (Nat×Nat)}{T:Nat->Prop}{rows:aL}
def GP{n x:Nat}:bF (2^n-1) x<2^n:=cc oq (Nat.sub_lt (Nat.pow_pos (by omega)) (by omega))
def iO.OV(h:iO n x y fds aR live T rows):live<2^n:=by
 refine lN.2 λi ag=>?_;exact lN.1 GP i (h.ci.r9 i ag)
def iO.lt(h:iO n x y fds aR live T rows){u:Nat}(hu:T u):u<2^n:=by
 refine lN.2 λi ag=>?_;exact lN.1 h.OV i (h.ci.sub u hu i ag)
def iO.Xc(h:iO n x y fds aR live T rows):bF live (x ||| y)<2^n:=cc oq h.OV
def iO.Jh(h:iO n x y fds aR live T rows){u:Nat}(hu:T u):u ^^^ bF live (x ||| y)<2^n:=Nat.xor_lt_two_pow (h.lt hu) h.Xc
def iO.mv(h:iO n x y fds aR live T rows)(af:hI (bF (2^n-1) x) (m_ fds aR (bF (2^n-1) x))){m:Nat×Nat}(hm:∀b∈m_ fds aR (bF (2^n-1) x),hS m b=false){r s:Nat}(hr:T r)(ae:T s)(aC:gf m.1 r s){Ca:aL}(oO:∀z,z∈Ca↔z∈rows∨z=dd n y (gr m r s ^^^ bF live (x ||| y))):
  iO n x y fds aR live (λu=>T u∨u=gr m r s) Ca where
 ci:=h.ci.mv af hm hr ae aC
 tab z:=by
  rw[oO z,h.tab z];constructor
  .rintro (⟨u,hu,rfl⟩|rfl)
   .exact ⟨u,.inl hu,rfl⟩
   .exact ⟨_,.inr rfl,rfl⟩
  .rintro ⟨u,hu|rfl,rfl⟩
   .exact .inl ⟨u,hu,rfl⟩
   .exact .inr rfl
def iO.fd(h:iO n x y fds aR live T rows)(af:hI (bF (2^n-1) x) (m_ fds aR (bF (2^n-1) x)))(hf:wK (qh fds aR) (m_ fds aR (bF (2^n-1) x))){d:Nat×Nat}(ah:d∈fds)(Ec:d.2<2^32){r s D:Nat}(hr:T r)(ae:T s)(aC:gf d.1 r s)(hB:∀i,D.testBit i=true↔d.2.testBit i=true/\r.testBit i≠s.testBit i){Ca:aL}(oO:∀z,z∈Ca↔∃u,T u/\z=dd n y (bF (u ^^^ bF live (x ||| y)) D)):
  iO n x y fds aR (bF live D) (λu=>∃q,T q/\u=bF q D) Ca where
 ci:=h.ci.fd af hf ah Ec λi hi=>⟨((hB i).1 hi).1,r,s,hr,ae,aC,((hB i).1 hi).2⟩
 tab z:=by
  rw[oO z];have e:bF (bF live D) (x ||| y)=bF (bF live (x ||| y)) D:=by
   apply aQ;intro i;simp only[fa];cases live.testBit i<;>cases D.testBit i<;>cases(x ||| y).testBit i<;>rfl
  rw[e];constructor
  .rintro ⟨u,hu,rfl⟩;exact⟨_,⟨u,hu,rfl⟩,by rw[SP]⟩
  .rintro ⟨_,⟨u,hu,rfl⟩,rfl⟩;exact⟨u,hu,by rw[SP]⟩
def iO.Na(h:iO n x y fds aR live T rows)(ao:n<=16)(ah:∀d∈fds,d.2<2^32)(ad:yp fds aR T):dd n y 0∈rows↔∀b∈m_ fds aR (bF (2^n-1) x),b &&& y=0∨bF b y=0:=by
 have hr:bF (2^n-1) x<2^32:=b3 GP (bL (by decide) (by omega));have oP:bF (2^n-1) x &&& x=0:=kJ.2 λi hi=>by
  rw[fa]at hi;simp only[ba,dn]at hi;exact hi.2
 rw[<-QW hr oP ah h.ci ad y,h.tab];constructor
 .rintro ⟨u,hu,he⟩;have:=Lo (Nat.two_pow_pos n) (h.Jh hu) he;have e:u=bF live (x ||| y):=by
   apply aQ;intro i;have:=congrArg (λz=>z.testBit i) this;simp only[cz,a6]at this;cases I:u.testBit i<;>cases aa:(bF live (x ||| y)).testBit i<;>simp_all
  rw[<-e];exact hu
 .intro hu;exact⟨_,hu,by rw[Nat.xor_self]⟩
end
def bh(x:Int):Nat:=x.toNat
def dz(x:Int):Prop:=0<=x/\x<4294967296
def dz.eq{x:Int}(h:dz x):x=(bh x:Int):=by have:=h.1;unfold bh;omega
def dz.lt{x:Int}(h:dz x):bh x<2^32:=by have:=h.1;have:=h.2;unfold bh;omega
def dz.top{x:Int}(h:dz x):bh x<2^top .u32:=by simpa[Go.aS.top]using h.lt
def dz.of{n:Nat}(h:n<2^32):dz (n:Int):=⟨by omega,by omega⟩
def kO{n:Nat}:bh (n:Int)=n:=cT n
def dz.ext{x y:Int}(U:dz x)(aw:dz y)(h:bh x=bh y):x=y:=by rw[U.eq,aw.eq,h]
def ac2{O:Type}(f:O->Nat){l m:List O}(hl:l.Pairwise (λa b=>f a<f b))(hm:m.Pairwise (λa b=>f a<f b))(h:∀x,x∈l↔x∈m):l=m:=by
 induction l generalizing m with
 |nil=>
  cases m with
  |nil=>rfl
  |cons b m=>have:=(h b).2 (by simp);simp at this
 |cons a l aN=>
  cases m with
  |nil=>have:=(h a).1 (by simp);simp at this
  |cons b m=>
   have aC:=aA.1 hl;have ag:=aA.1 hm;have e:a=b:=by
    rcases aM.1 ((h a).1 (by simp))with I|I
    .exact I
    .rcases aM.1 ((h b).2 (by simp))with aa|aa
     .exact aa.symm
     .have:=ag.1 a I;have:=aC.1 b aa;omega
   subst e;rw[aN aC.2 ag.2];intro x;constructor
   .intro U;rcases aM.1 ((h x).1 (by simp[U]))with I|I
    .subst I;have:=aC.1 x U;omega
    .exact I
   .intro U;rcases aM.1 ((h x).2 (by simp[U]))with I|I
    .subst I;have:=ag.1 x U;omega
    .exact I
def og(n:Nat):Nat:=(fb n).length
def lB(x:Int):Nat:=og (bh x)*4294967296+bh x
def Tt{x y:Int}(U:dz x)(aw:dz y)(h:lB x=lB y):x=y:=by
 have I:=U.lt;have aa:=aw.lt;unfold lB at h;exact U.ext aw (by omega)
def adS{x y:Int}(U:dz x)(aw:dz y):lB x<lB y↔og (bh x)<og (bh y)∨og (bh x)=og (bh y)/\bh x<bh y:=by
 have I:=U.lt;have aa:=aw.lt;unfold lB;constructor
 .intro h;rcases c_ (og (bh x)) (og (bh y))with aB|aB|aB
  .exact .inl aB
  .rw [aB]at h;exact .inr ⟨aB,by omega⟩
  .omega
 .rintro (h|⟨h,aB⟩)
  .omega
  .omega
abbrev pj(l:ay):Prop:=∀x∈l,dz x
abbrev ym(l:ay):Prop:=l.Pairwise (λa b=>lB a<lB b)
def l_(x:Int):ay->ay
 |[]=>[x]
 |a::r=>if lB x<lB a then x::a::r else if lB x=lB a then a::r else a::l_ x r
def Gt{x:Int}(U:dz x):∀{l:ay},pj l->∀y,y∈l_ x l↔y=x∨y∈l
 |[],_,y=>by simp[l_]
 |a::r,hl,y=>by
  simp only[l_];have aC:=hl a (by simp)
  split
  .simp
  .split
   .rename_i h;have e:=Tt U aC h;subst e;simp
   .rw [aM,Gt U (λz aG=>hl z (by simp[aG])),aM];constructor
    .rintro (h|h|h)<;>simp[h]
    .rintro (h|h|h)<;>simp[h]
def Tp{x:Int}(U:dz x):∀{l:ay},pj l->ym l->ym (l_ x l)
 |[],_,_=>by simp[l_]
 |a::r,hl,h=>by
  simp only[l_];have aC:=aA.1 h
  split
  .rename_i I;refine aA.2 ⟨λy aw=>?_,h⟩;rcases aM.1 aw with rfl|aw
   .exact I
   .exact Nat.lt_trans I (aC.1 y aw)
  .split
   .exact h
   .rename_i I aa;refine aA.2 ⟨λy aw=>?_,Tp U (λz aG=>hl z (by simp[aG])) aC.2⟩;rcases(Gt U (λz aG=>hl z (by simp[aG])) y).1 aw with rfl|aw
    .omega
    .exact aC.1 y aw
def qY(l:ay):ay:=l.foldl (λacc x=>l_ x acc) []
def TT{l:ay}:∀{acc:ay},pj l->pj acc->ym acc->pj (l.foldl (λacc x=>l_ x acc) acc)/\ym (l.foldl (λacc x=>l_ x acc) acc)/\∀y,y∈l.foldl (λacc x=>l_ x acc) acc↔y∈acc∨y∈l:=by
 induction l with
 |nil=>intro acc _ I aa;exact⟨I,aa,by simp⟩
 |cons a l aN=>
  intro acc h I aa;have aC:=h a (by simp);have aB:pj (l_ a acc):=λy aw=>by
   rcases(Gt aC I y).1 aw with rfl|aw
   .exact aC
   .exact I y aw
  obtain⟨i1,i2,i3⟩:=aN (acc:=l_ a acc) (λy aw=>h y (by simp[aw])) aB (Tp aC I aa);refine⟨i1,i2,λy=>?_⟩;rw[fx,i3,Gt aC I,aM];constructor
  .rintro ((h|h)|h)<;>simp[h]
  .rintro (h|h|h)<;>simp[h]
def acD{l:ay}(h:pj l):ym (qY l):=(TT h (λ_ h=>by cases h) cu).2.1
def TA{l:ay}(h:pj l)(y:Int):y∈qY l↔y∈l:=by
 have:=(TT h (acc:=[]) (λ_ h=>by cases h) cu).2.2 y;unfold qY;simpa using this
def ad3{l m:ay}(h:pj l)(hm:ym m)(U:∀y,y∈m↔y∈l):m=qY l:=
 ac2 lB hm (acD h) λy=>by rw[U,TA h]
def acE{l:ay}:(qY l).length<=l.length:=by
 have:∀(l acc:ay),(l.foldl (λacc x=>l_ x acc) acc).length<=acc.length+l.length:=by
  intro l
  induction l with
  |nil=>intro acc;simp
  |cons a l aN=>
   intro acc;have I:∀m:ay,(l_ a m).length<=m.length+1:=by
    intro m
    induction m with
    |nil=>simp[l_]
    |cons b m xi=>
     simp only[l_]
     split
     .simp
     .split
      .simp
      .simp only[dR];omega
   have:=aN (l_ a acc);have:=I acc;rw[fx,dR];omega
 simpa[qY]using this l []
def iw:ay->ay
 |[]=>[]
 |[a]=>[a]
 |a::b::r=>if a=b then iw (b::r)else a::iw (b::r)
def FT:∀{l:ay}(y:Int),y∈iw l↔y∈l
 |[],y=>by simp[iw]
 |[a],y=>by simp[iw]
 |a::b::r,y=>by
  simp only[iw]
  split
  .rename_i h;subst h;rw[FT];simp
  .rw [aM,FT];simp
def JQ:∀{l:ay},pj l->l.Pairwise (λa b=>lB a<=lB b)->ym (iw l)
 |[],_,_=>by simp[iw]
 |[a],_,_=>by simp[iw]
 |a::b::r,hu,h=>by
  have I:=aA.1 h;simp only[iw]
  split
  .exact JQ (λz aG=>hu z (by simp[aG])) I.2
  .rename_i cI;refine aA.2 ⟨λy aw=>?_,JQ (λz aG=>hu z (by simp[aG])) I.2⟩;have aw:=(FT y).1 aw;have dH:lB a<lB b:=by
    have:=I.1 b (by simp);rcases Nat.lt_or_eq_of_le this with aa|aa
    .exact aa
    .exact absurd (Tt (hu a (by simp)) (hu b (by simp)) aa) cI
   rcases aM.1 aw with rfl|aw
   .exact dH
   .exact b3 dH ((aA.1 I.2).1 y aw)
end Go.aS
