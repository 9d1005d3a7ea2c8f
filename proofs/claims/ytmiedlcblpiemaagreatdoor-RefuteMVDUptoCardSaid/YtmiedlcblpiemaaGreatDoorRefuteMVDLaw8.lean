/- What the functions answer. No conditions. -/
import Derived.Laws.Strings
import Derived.Test.YtmiedlcblpiemaaGreatDoorRefuteMVDLaw5
set_option linter.all false
open List renaming pairwise_cons->zA,mem_cons->zB,length_cons->zS,mem_flatMap->zT,mem_filter->zU,foldl_cons->zW
open Bool renaming and_eq_true->zC,true_and->zK,not_eq_false'->zO
open Nat renaming testBit_or->zD,eq_of_testBit_eq->zE,zero_testBit->zF,testBit_two_pow_mul_add->zG,pow_le_pow_right->zI,testBit_add_one->zL,lt_of_lt_of_le->zM,pos_of_ne_zero->zN,lt_trichotomy->zQ,zero_le->zR,testBit_and->zV,testBit_xor->zX
open List.Pairwise renaming nil->zH
open Int renaming toNat_natCast->zP
namespace Go.Own
def cmpI(a b:Int):Int:=if a<b then -1 else if b<a then 1 else 0
def down{n:Nat}{P:Nat -> Prop}(h0:P n)(hs:∀k,k<n -> P (k+1) -> P k):∀k,k <= n -> P k:=by
  have:∀m k,k+m=n -> P k:=by
    intro m
    induction m with
    | zero => intro k hk; have : k = n := by omega
              subst this;exact h0
    |succ m ih=>intro k hk;exact hs k (by omega) (ih (k+1) (by omega))
  intro k hk;exact this (n-k) k (by omega)
def An3{O:Type}(p:O->Bool):List O->Nat->Int
 |[],_=>-1
 |a::r,k=>if p a=true then(k:Int)else An3 p r (k+1)
def ixI{O:Type}(p:O->Bool)(l:List O):Int:=An3 p l 0
def Au5{O:Type}{p:O->Bool}:∀{l:List O}{k:Nat},decide (0<=An3 p l k)=l.any p
 |[],_=>rfl
 |a::r,k=>by
  simp only[An3,List.any_cons]
  split
  .rename_i h;simp[h]
  .rename_i h;rw[Au5,Bool.eq_false_iff.2 h];simp
def Ar4{O:Type}{p:O->Bool}{l:List O}:decide (0<=ixI p l)=l.any p:=Au5
def Akb{O:Type}{l:List O}{p:O -> Bool}{L:Int -> Prop}{J:Int -> Prop}(stop:J (-1) -> L (l.length:Int))
    (step:∀(k:Nat) a,l[k]?=some a -> k<l.length -> (if p a=true then J (k:Int)else L ((k+1:Nat):Int)) -> L k) (h:J (ixI p l)):L 0:=by
  have:∀(r:List O)(k:Nat),l.drop k=r -> k <= l.length -> J (An3 p r k) -> L k:=by
    intro r
    induction r with
    | nil => intro k hd hk h; have : k = l.length := by have := Aap hd; omega
             subst this;exact stop h
    |cons a r ih=>
      intro k hd hk h;have hlt:=Aaq hd;refine step k a (Aab hd) hlt ?_;simp only[An3]at h
      split
      · rename_i hp;rw[if_pos hp]at h;exact h
      · rename_i hp;rw[if_neg hp]at h;exact ih (k+1) (Aa8 hd) hlt h
  exact this l 0 rfl (zR _) h
def Akr{O:Type}{l:List O}{p:O -> Bool}{L:Int -> Prop}{J:Bool -> Prop}(stop:J true -> L (l.length:Int))
    (step:∀(k:Nat) a,l[k]?=some a -> k<l.length -> (if p a=true then L ((k+1:Nat):Int)else J false) -> L k) (h:J (l.all p)):L 0:=by
  have:∀(r:List O)(k:Nat),l.drop k=r -> k <= l.length -> J (r.all p) -> L k:=by
    intro r
    induction r with
    | nil => intro k hd hk h; have : k = l.length := by have := Aap hd; omega
             subst this;exact stop h
    |cons a r ih=>
      intro k hd hk h;have hlt:=Aaq hd;refine step k a (Aab hd) hlt ?_;simp only[List.all_cons]at h
      split
      · rename_i hp;rw[hp,zK]at h;exact ih (k+1) (Aa8 hd) hlt h
      · rename_i hp
        have hp:p a=false:=by simpa using hp
        rw[hp,Bool.false_and]at h;exact h
  exact this l 0 rfl (zR _) h
def Bh8{O:Type}{l:List O}{p:O -> Bool}{L:Int -> Prop}{J:Bool -> Prop}(stop:J false -> L (l.length:Int))
    (step:∀(k:Nat) a,l[k]?=some a -> k<l.length -> (if p a=true then J true else L ((k+1:Nat):Int)) -> L k) (h:J (l.any p)):L 0:=by
  have:∀(r:List O)(k:Nat),l.drop k=r -> k <= l.length -> J (r.any p) -> L k:=by
    intro r
    induction r with
    | nil => intro k hd hk h; have : k = l.length := by have := Aap hd; omega
             subst this;exact stop h
    |cons a r ih=>
      intro k hd hk h;have hlt:=Aaq hd;refine step k a (Aab hd) hlt ?_;simp only[List.any_cons]at h
      split
      · rename_i hp;rw[hp,Bool.true_or]at h;exact h
      · rename_i hp
        have hp:p a=false:=by simpa using hp
        rw[hp,Bool.false_or]at h;exact ih (k+1) (Aa8 hd) hlt h
  exact this l 0 rfl (zR _) h
def Ab6{O:Type}{l:List O}{k:Nat}{a:O}(h:l[k]?=some a):lget l (k:Int)=some a:=by rw[Ac6];exact h
def Aqx{s:ByteArray}:s.toList=s.data.toList:=ByteArray.toList_eq s
def Aks{a b:ByteArray}:a.toList=b.toList↔a=b:=by
 constructor
 .intro h;rw[Aqx,Aqx]at h;obtain⟨⟨a⟩⟩:=a;obtain⟨⟨b⟩⟩:=b;simp only at h;rw[h]
 .rintro rfl;rfl
def Ad5{s:ByteArray}:Ads s=(s.toList.length:Int):=by
 rw[Aqx];rfl
def bget{s:ByteArray}{i:Nat}:s[i]?=s.toList[i]?:=by
 rw[Aqx];by_cases h:i<s.size
 .rw [getElem?_pos s i h,List.getElem?_eq_getElem (by exact h)];rfl
 .rw [getElem?_neg s i h,List.getElem?_eq_none (by simpa using h)]
def Aeu{s:ByteArray}{k:Nat}{b:UInt8}(h:s.toList[k]?=some b):(0:Int)<=(k:Int)/\s[((k:Nat):Int).toNat]?=some b:=⟨by omega,by rw[zP,bget];exact h⟩
def Aya{l:List UInt8}:(⟨l.toArray⟩:ByteArray).toList=l:=by rw[Aqx]
def Avf{l:List UInt8}:(bstr l).toList=l:=Aya
def Bay{b:UInt8}:0<=u8i b/\u8i b<256:=by
 unfold u8i;have:=b.toNat_lt;omega
def Anh{a b:UInt8}:u8i a=u8i b↔a=b:=by
 unfold u8i;constructor
 .intro h;exact UInt8.toNat_inj.1 (by omega)
 .rintro rfl;rfl
def Av0{l m:List Nat}(hl:l.Pairwise (·<·))(hm:m.Pairwise (·<·))(h:∀x,x∈l↔x∈m):l=m:=by
 induction l generalizing m with
 |nil=>
  cases m with
  |nil=>rfl
  |cons b m=>have:=(h b).2 (by simp);simp at this
 |cons a l ih=>
  cases m with
  |nil=>have:=(h a).1 (by simp);simp at this
  |cons b m=>
   have ha:=zA.1 hl;have hb:=zA.1 hm;have e:a=b:=by
    rcases zB.1 ((h a).1 (by simp))with h1|h1
    .exact h1
    .rcases zB.1 ((h b).2 (by simp))with h2|h2
     .exact h2.symm
     .have:=hb.1 a h1;have:=ha.1 b h2;omega
   subst e;rw[ih ha.2 hb.2];intro x;constructor
   .intro hx;rcases zB.1 ((h x).1 (by simp[hx]))with h1|h1
    .subst h1;have:=ha.1 x hx;omega
    .exact h1
   .intro hx;rcases zB.1 ((h x).2 (by simp[hx]))with h1|h1
    .subst h1;have:=hb.1 x hx;omega
    .exact h1
def Aal(n:Nat):List Nat:=(List.range 32).filter fun i=>n.testBit i
def Abk{n i:Nat}(h:n<2^32):i∈Aal n↔n.testBit i=true:=by
 unfold Aal;simp only[zU,List.mem_range];constructor
 .exact fun h=>h.2
 .intro hi;refine⟨?_,hi⟩
  false_or_by_contra
  rename_i hn;rw[Nat.testBit_lt_two_pow (zM h (zI (by decide) (by omega)))]at hi;cases hi
def Afm{n:Nat}:(Aal n).Pairwise (·<·):=List.pairwise_lt_range.filter _
def Afd{n:Nat}:(Aal n).length<=32:=Nat.le_trans (List.length_filter_le _ _) (by simp)
def Bbd:Aal 0=[]:=by
 unfold Aal;rw[List.filter_eq_nil_iff];simp
def Bab{x:Nat}:∀{n k:Nat},(∀j,j<k->x.testBit j=false)->(∃j,j<n+k/\x.testBit j=true)->x.testBit (Ad0 x n k)=true/\∀j,j<Ad0 x n k->x.testBit j=false
 |0,k,h,⟨j,h1,h2⟩=>by rw[h j (by omega)]at h2;cases h2
 |n+1,k,h,⟨j,h1,h2⟩=>by
  simp only[Ad0]
  split
  .rename_i hk;exact⟨hk,h⟩
  .rename_i hk;refine Bab (fun i hi=>?_) ⟨j,by omega,h2⟩;by_cases hik:i=k
   .subst hik;simpa using hk
   .exact h i (by omega)
def Bm8{n:Nat}(h0:n≠0)(h:n<2^32):∃j,j<32/\n.testBit j=true:=by
 obtain⟨j,hj⟩:=Nat.exists_testBit_of_ne_zero h0;exact⟨j,by have:=(Abk h).2 hj;unfold Aal at this;simpa using(zU.1 this).1,hj⟩
def Bfa{n i:Nat}(hi:n.testBit i=true)(hl:∀j,j<i->n.testBit j=false)(j:Nat):(n &&& (n-1)).testBit j=(n.testBit j&&decide (j≠i)):=by
 have e:n=2^i*(2*(n / 2^(i+1))+1):=by
  have h1:n%2^i=0:=by
   apply zE;intro j;rw[Nat.testBit_mod_two_pow,zF];by_cases hj:j<i
   .rw [hl j hj];simp
   .simp [hj]
  have h2:n / 2^i%2=1:=by rw[Nat.testBit_eq_decide_div_mod_eq]at hi;simpa using hi
  have h3:=Nat.div_add_mod n (2^i);have h4:n / 2^(i+1)=n / 2^i / 2:=by rw[Nat.pow_succ,Nat.div_div_eq_div_mul]
  rw[h4];have h5:2*(n / 2^i / 2)+1=n / 2^i:=by omega
  rw[h5];omega
 generalize hm:n / 2^(i+1)=m at e;have hp:0<2^i:=zN (by simp);have e1:n-1=2^i*(2*m)+(2^i-1):=by rw[e,Nat.mul_add];omega
 have e2:n=2^i*(2*m+1)+0:=by rw[e];rfl
 rw[zV,e1,zG _ (by omega)];by_cases h1:j<i
 .rw [hl j h1];rfl
 .rw [if_neg h1];by_cases h2:j=i
  .subst h2;simp[Nat.testBit_zero]
  .have h3:(2*m).testBit (j-i)=n.testBit j:=by
    rw[e2,zG _ (by omega),if_neg h1];obtain⟨q,hq⟩:∃q,j-i=q+1:=⟨j-i-1,by omega⟩
    rw[hq,zL,zL];congr 1;omega
   rw[h3];simp[h2]
def Bbc{n:Nat}(h0:n≠0)(h:n<2^32):Aal n=Ad0 n 32 0::Aal (n &&& (n-1)):=by
 obtain⟨h1,h2⟩:=Bab (x:=n) (n:=32) (k:=0) (fun j hj=>by omega) (by simpa using Bm8 h0 h);have hlt:(n &&& (n-1))<2^32:=Nat.lt_of_le_of_lt Nat.and_le_left h;have hb:=Bfa h1 h2;refine Av0 Afm ?_ fun x=>?_
 .refine zA.2 ⟨fun y hy=>?_,Afm⟩;rw[Abk hlt,hb]at hy;simp only[zC,decide_eq_true_eq]at hy;rcases zQ y (Ad0 n 32 0)with h3|h3|h3
  .rw [h2 y h3]at hy;cases hy.1
  .exact absurd h3 hy.2
  .exact h3
 .rw [zB,Abk h,Abk hlt,hb];simp only[zC,decide_eq_true_eq];by_cases hx:x=Ad0 n 32 0
  .simp [hx,h1]
  .simp [hx]
def Bhg{n:Nat}(h0:n≠0):(n &&& (n-1))<n:=by
 have:=Nat.and_le_right (n:=n) (m:=n-1);omega
def Adh(k:Nat):Nat:=2^min k 32-1
def Am2{k i:Nat}:(Adh k).testBit i=decide (i<min k 32):=by
 unfold Adh;rw[Nat.testBit_two_pow_sub_one]
def Azp{k:Nat}:Adh k<2^32:=by
 unfold Adh;have:2^min k 32<=2^32:=zI (by decide) (Nat.min_le_right _ _);have h2:0<2^min k 32:=zN (by simp);omega
def sN(x:Int):Nat:=x.toNat
def U32(x:Int):Prop:=0<=x/\x<4294967296
def U32.eq{x:Int}(h:U32 x):x=(sN x:Int):=by have:=h.1;unfold sN;omega
def U32.lt{x:Int}(h:U32 x):sN x<2^32:=by have:=h.1;have:=h.2;unfold sN;omega
def U32.top{x:Int}(h:U32 x):sN x<2^top .u32:=by simpa[Go.Own.top]using h.lt
def U32.of{n:Nat}(h:n<2^32):U32 (n:Int):=⟨by omega,by omega⟩
def Aco{n:Nat}:sN (n:Int)=n:=zP n
def U32.ext{x y:Int}(hx:U32 x)(hy:U32 y)(h:sN x=sN y):x=y:=by rw[hx.eq,hy.eq,h]
def Bjc{O:Type}(f:O->Nat){l m:List O}(hl:l.Pairwise (fun a b=>f a<f b))(hm:m.Pairwise (fun a b=>f a<f b))(h:∀x,x∈l↔x∈m):l=m:=by
 induction l generalizing m with
 |nil=>
  cases m with
  |nil=>rfl
  |cons b m=>have:=(h b).2 (by simp);simp at this
 |cons a l ih=>
  cases m with
  |nil=>have:=(h a).1 (by simp);simp at this
  |cons b m=>
   have ha:=zA.1 hl;have hb:=zA.1 hm;have e:a=b:=by
    rcases zB.1 ((h a).1 (by simp))with h1|h1
    .exact h1
    .rcases zB.1 ((h b).2 (by simp))with h2|h2
     .exact h2.symm
     .have:=hb.1 a h1;have:=ha.1 b h2;omega
   subst e;rw[ih ha.2 hb.2];intro x;constructor
   .intro hx;rcases zB.1 ((h x).1 (by simp[hx]))with h1|h1
    .subst h1;have:=ha.1 x hx;omega
    .exact h1
   .intro hx;rcases zB.1 ((h x).2 (by simp[hx]))with h1|h1
    .subst h1;have:=hb.1 x hx;omega
    .exact h1
def szN(n:Nat):Nat:=(Aal n).length
def keyS(x:Int):Nat:=szN (sN x)*4294967296+sN x
def Ba2{x y:Int}(hx:U32 x)(hy:U32 y)(h:keyS x=keyS y):x=y:=by
 have h1:=hx.lt;have h2:=hy.lt;unfold keyS at h;exact hx.ext hy (by omega)
def Bl6{x y:Int}(hx:U32 x)(hy:U32 y):keyS x<keyS y↔szN (sN x)<szN (sN y)∨szN (sN x)=szN (sN y)/\sN x<sN y:=by
 have h1:=hx.lt;have h2:=hy.lt;unfold keyS;constructor
 .intro h;rcases zQ (szN (sN x)) (szN (sN y))with h3|h3|h3
  .exact .inl h3
  .rw [h3]at h;exact .inr ⟨h3,by omega⟩
  .omega
 .rintro (h|⟨h,h3⟩)
  .omega
  .omega
abbrev AllU(l:List Int):Prop:=∀x∈l,U32 x
abbrev Asc(l:List Int):Prop:=l.Pairwise (fun a b=>keyS a<keyS b)
def insS(x:Int):List Int->List Int
 |[]=>[x]
 |a::r=>if keyS x<keyS a then x::a::r else if keyS x=keyS a then a::r else a::insS x r
def Ao4{x:Int}(hx:U32 x):∀{l:List Int},AllU l->∀y,y∈insS x l↔y=x∨y∈l
 |[],_,y=>by simp[insS]
 |a::r,hl,y=>by
  simp only[insS];have ha:=hl a (by simp)
  split
  .simp
  .split
   .rename_i h;have e:=Ba2 hx ha h;subst e;simp
   .rw [zB,Ao4 hx (fun z hz=>hl z (by simp[hz])),zB];constructor
    .rintro (h|h|h)<;>simp[h]
    .rintro (h|h|h)<;>simp[h]
def Azy{x:Int}(hx:U32 x):∀{l:List Int},AllU l->Asc l->Asc (insS x l)
 |[],_,_=>by simp[insS]
 |a::r,hl,h=>by
  simp only[insS];have ha:=zA.1 h
  split
  .rename_i h1;refine zA.2 ⟨fun y hy=>?_,h⟩;rcases zB.1 hy with rfl|hy
   .exact h1
   .exact Nat.lt_trans h1 (ha.1 y hy)
  .split
   .exact h
   .rename_i h1 h2;refine zA.2 ⟨fun y hy=>?_,Azy hx (fun z hz=>hl z (by simp[hz])) ha.2⟩;rcases(Ao4 hx (fun z hz=>hl z (by simp[hz])) y).1 hy with rfl|hy
    .omega
    .exact ha.1 y hy
def ordL(l:List Int):List Int:=l.foldl (fun acc x=>insS x acc) []
def Bch{l:List Int}:∀{acc:List Int},AllU l->AllU acc->Asc acc->AllU (l.foldl (fun acc x=>insS x acc) acc)/\Asc (l.foldl (fun acc x=>insS x acc) acc)/\∀y,y∈l.foldl (fun acc x=>insS x acc) acc↔y∈acc∨y∈l:=by
 induction l with
 |nil=>intro acc _ h1 h2;exact⟨h1,h2,by simp⟩
 |cons a l ih=>
  intro acc h h1 h2;have ha:=h a (by simp);have h3:AllU (insS a acc):=fun y hy=>by
   rcases(Ao4 ha h1 y).1 hy with rfl|hy
   .exact ha
   .exact h1 y hy
  obtain⟨i1,i2,i3⟩:=ih (acc:=insS a acc) (fun y hy=>h y (by simp[hy])) h3 (Azy ha h1 h2);refine⟨i1,i2,fun y=>?_⟩;rw[zW,i3,Ao4 ha h1,zB];constructor
  .rintro ((h|h)|h)<;>simp[h]
  .rintro (h|h|h)<;>simp[h]
def Bik{l:List Int}(h:AllU l):Asc (ordL l):=(Bch h (fun _ h=>by cases h) zH).2.1
def Bak{l:List Int}(h:AllU l)(y:Int):y∈ordL l↔y∈l:=by
 have:=(Bch h (acc:=[]) (fun _ h=>by cases h) zH).2.2 y;unfold ordL;simpa using this
def Blh{l m:List Int}(h:AllU l)(hm:Asc m)(hx:∀y,y∈m↔y∈l):m=ordL l:=
 Bjc keyS hm (Bik h) fun y=>by rw[hx,Bak h]
def Bil{l:List Int}:(ordL l).length<=l.length:=by
 have:∀(l acc:List Int),(l.foldl (fun acc x=>insS x acc) acc).length<=acc.length+l.length:=by
  intro l
  induction l with
  |nil=>intro acc;simp
  |cons a l ih=>
   intro acc;have h1:∀m:List Int,(insS a m).length<=m.length+1:=by
    intro m
    induction m with
    |nil=>simp[insS]
    |cons b m ih2=>
     simp only[insS]
     split
     .simp
     .split
      .simp
      .simp only[zS];omega
   have:=ih (insS a acc);have:=h1 acc;rw[zW,zS];omega
 simpa[ordL]using this l []
def Ab4:List Int->List Int
 |[]=>[]
 |[a]=>[a]
 |a::b::r=>if a=b then Ab4 (b::r)else a::Ab4 (b::r)
def Ai3:∀{l:List Int}(y:Int),y∈Ab4 l↔y∈l
 |[],y=>by simp[Ab4]
 |[a],y=>by simp[Ab4]
 |a::b::r,y=>by
  simp only[Ab4]
  split
  .rename_i h;subst h;rw[Ai3];simp
  .rw [zB,Ai3];simp
def Aku:∀{l:List Int},AllU l->l.Pairwise (fun a b=>keyS a<=keyS b)->Asc (Ab4 l)
 |[],_,_=>by simp[Ab4]
 |[a],_,_=>by simp[Ab4]
 |a::b::r,hu,h=>by
  have h1:=zA.1 h;simp only[Ab4]
  split
  .exact Aku (fun z hz=>hu z (by simp[hz])) h1.2
  .rename_i hne;refine zA.2 ⟨fun y hy=>?_,Aku (fun z hz=>hu z (by simp[hz])) h1.2⟩;have hy:=(Ai3 y).1 hy;have hab:keyS a<keyS b:=by
    have:=h1.1 b (by simp);rcases Nat.lt_or_eq_of_le this with h2|h2
    .exact h2
    .exact absurd (Ba2 (hu a (by simp)) (hu b (by simp)) h2) hne
   rcases zB.1 hy with rfl|hy
   .exact hab
   .exact zM hab ((zA.1 h1.2).1 y hy)
def fdMv(d:Nat×Nat):List (Nat×Nat):=(Aal d.2).map fun a=>(d.1,2^a)
def Ai0(fds mvds:List (Nat×Nat)):List (Nat×Nat):=mvds++fds.flatMap fdMv
def mixR(m:Nat×Nat)(r s:Nat):Nat:=(r &&& (m.1 ||| m.2)) ||| Aa7 s (m.1 ||| m.2)
def Aax(l r s:Nat):Prop:=∀i,l.testBit i=true->r.testBit i=s.testBit i
def Atc{l r s:Nat}:(r ^^^ s) &&& l=0↔Aax l r s:=by
 rw[Abx];constructor
 .intro h i hl;cases hq:(r ^^^ s).testBit i with
  |true=>rw[h i hq]at hl;cases hl
  |false=>rw[zX]at hq;revert hq;cases r.testBit i<;>cases s.testBit i<;>simp
 .intro h i hx;cases hl:l.testBit i with
  |false=>rfl
  |true=>rw[zX,h i hl]at hx;simp at hx
def Age{m:Nat×Nat}{r s i:Nat}:(mixR m r s).testBit i=if(m.1 ||| m.2).testBit i=true then r.testBit i else s.testBit i:=by
 unfold mixR;rw[zD,zV,Aa9];cases(m.1 ||| m.2).testBit i<;>simp
def Acu{i j:Nat}:(2^i).testBit j=decide (i=j):=Nat.testBit_two_pow
structure CI(fds:List (Nat×Nat))(bs:List Nat)(rest live:Nat)(T:Nat->Prop):Prop where
 zero:T 0
 top:T live
 sub:∀r,T r->∀i,r.testBit i=true->live.testBit i=true
 lsub:∀i,live.testBit i=true->rest.testBit i=true
 blk:∀r,T r->∀b∈bs,(∀i,b.testBit i=true->live.testBit i=true->r.testBit i=false)∨(∀i,b.testBit i=true->live.testBit i=true->r.testBit i=true)
 dead:∀i,rest.testBit i=true->live.testBit i=false->2^i∈bs/\∃d∈fds,d.2.testBit i=true/\d.1.testBit i=false
def CI.whole{fds:List (Nat×Nat)}{bs:List Nat}{rest live:Nat}{T:Nat->Prop}(h:CI fds bs rest live T)(hp:BPart rest bs){b:Nat}(hb:b∈bs):(∀i,b.testBit i=true->live.testBit i=true)∨(∃j,b=2^j/\live.testBit j=false):=by
 by_cases hq:∃i,b.testBit i=true/\live.testBit i=false
 .obtain ⟨i,h1,h2⟩:=hq;obtain⟨h3,_⟩:=h.dead i ((hp.all i).2 ⟨b,hb,h1⟩) h2;exact .inr ⟨i,Bfg hp hb h3 h1 (by rw[Acu];simp),h2⟩
 .refine .inl fun i hi=>?_;cases hl:live.testBit i with
  |true=>rfl
  |false=>exact absurd ⟨i,hi,hl⟩ hq
def CI.same{fds:List (Nat×Nat)}{bs:List Nat}{rest live:Nat}{T:Nat->Prop}(h:CI fds bs rest live T){b:Nat}(hb:b∈bs){r s:Nat}(hr:T r)(hs:T s){i:Nat}(hi:b.testBit i=true)(hl:live.testBit i=true)(he:r.testBit i=s.testBit i):∀j,b.testBit j=true->r.testBit j=s.testBit j:=by
 intro j hj;cases hlj:live.testBit j with
 |false=>
  have h1:r.testBit j=false:=by
   cases hq:r.testBit j with
   |false=>rfl
   |true=>rw[h.sub r hr j hq]at hlj;cases hlj
  have h2:s.testBit j=false:=by
   cases hq:s.testBit j with
   |false=>rfl
   |true=>rw[h.sub s hs j hq]at hlj;cases hlj
  rw[h1,h2]
 |true=>
  rcases h.blk r hr b hb with h1|h1<;>rcases h.blk s hs b hb with h2|h2
  .rw [h1 j hj hlj,h2 j hj hlj]
  .rw [h1 i hi hl,h2 i hi hl]at he;cases he
  .rw [h1 i hi hl,h2 i hi hl]at he;cases he
  .rw [h1 j hj hlj,h2 j hj hlj]
def CI.mv{fds:List (Nat×Nat)}{bs:List Nat}{rest live:Nat}{T:Nat->Prop}(h:CI fds bs rest live T)(hp:BPart rest bs){m:Nat×Nat}(hm:∀b∈bs,Abt m b=false){r s:Nat}(hr:T r)(hs:T s)(ha:Aax m.1 r s):CI fds bs rest live (fun u=>T u∨u=mixR m r s) where
 zero:=.inl h.zero
 top:=.inl h.top
 lsub:=h.lsub
 dead:=h.dead
 sub:=by
  rintro u (hu|rfl) i hi
  .exact h.sub u hu i hi
  .rw [Age]at hi
   split at hi
   .exact h.sub r hr i hi
   .exact h.sub s hs i hi
 blk:=by
  rintro u (hu|rfl) b hb
  .exact h.blk u hu b hb
  .rcases h.whole hp hb with hw|⟨j,rfl,hj⟩
   .have hn:=hm b hb;have hn:¬(b &&& m.1=0/\b &&& m.2≠0/\Aa7 b m.2≠0):=fun hq=>by rw[Agz.2 hq]at hn;cases hn
    by_cases h1:b &&& m.1=0
    .by_cases h2:b &&& m.2=0
     .have:∀i,b.testBit i=true->(mixR m r s).testBit i=s.testBit i:=fun i hi=>by
       rw[Age,zD,Abx.1 h1 i hi,Abx.1 h2 i hi];rfl
      rcases h.blk s hs b hb with hq|hq
      .exact .inl fun i h1 h2=>by rw[this i h1];exact hq i h1 h2
      .exact .inr fun i h1 h2=>by rw[this i h1];exact hq i h1 h2
     .have h3:Aa7 b m.2=0:=Classical.byContradiction fun hq=>hn ⟨h1,h2,hq⟩;have:∀i,b.testBit i=true->(mixR m r s).testBit i=r.testBit i:=fun i hi=>by
       rw[Age,zD,Afi.1 h3 i hi,Bool.or_true,if_pos rfl]
      rcases h.blk r hr b hb with hq|hq
      .exact .inl fun i h1 h2=>by rw[this i h1];exact hq i h1 h2
      .exact .inr fun i h1 h2=>by rw[this i h1];exact hq i h1 h2
    .obtain ⟨i,hi,hl⟩:=Ap9.1 h1;have hsame:=h.same hb hr hs hi (hw i hi) (ha i hl);have:∀i,b.testBit i=true->(mixR m r s).testBit i=r.testBit i:=fun i hi=>by
      rw[Age,<-hsame i hi];simp
     rcases h.blk r hr b hb with hq|hq
     .exact .inl fun i h1 h2=>by rw[this i h1];exact hq i h1 h2
     .exact .inr fun i h1 h2=>by rw[this i h1];exact hq i h1 h2
   .refine .inl fun i h1 h2=>?_;rw[Acu,decide_eq_true_eq]at h1;subst h1;rw[hj]at h2;cases h2
def CI.fd{fds mvds:List (Nat×Nat)}{bs:List Nat}{rest live:Nat}{T:Nat->Prop}(h:CI fds bs rest live T)(hp:BPart rest bs)(hf:BFin (Ai0 fds mvds) bs){d:Nat×Nat}(hd:d∈fds)(hd32:d.2<2^32){D:Nat}(hD:∀i,D.testBit i=true->d.2.testBit i=true/\∃r s,T r/\T s/\Aax d.1 r s/\r.testBit i≠s.testBit i):CI fds bs rest (Aa7 live D) (fun u=>∃r,T r/\u=Aa7 r D):=by
 have key:∀i,D.testBit i=true->2^i∈bs/\d.2.testBit i=true/\d.1.testBit i=false:=by
  intro i hi;obtain⟨h1,r,s,hr,hs,ha,hne⟩:=hD i hi;have hl:live.testBit i=true:=by
   cases hq:r.testBit i with
   |true=>exact h.sub r hr i hq
   |false=>
    cases hq2:s.testBit i with
    |true=>exact h.sub s hs i hq2
    |false=>rw[hq,hq2]at hne;exact absurd rfl hne
  have hd1:d.1.testBit i=false:=by
   cases hq:d.1.testBit i with
   |false=>rfl
   |true=>exact absurd (ha i hq) hne
  obtain⟨b,hb,hbi⟩:=(hp.all i).1 (h.lsub i hl);have h0:b &&& d.1=0:=by
   rw[Abx];intro j hj;cases hq:d.1.testBit j with
   |false=>rfl
   |true=>
    have hlj:live.testBit j=true:=by
     rcases h.whole hp hb with hw|⟨k,rfl,hk⟩
     .exact hw j hj
     .rw [Acu,decide_eq_true_eq]at hbi;subst hbi;rw[hl]at hk;cases hk
    exact absurd (h.same hb hr hs hj hlj (ha j hq) i hbi) hne
  have hmem:(d.1,2^i)∈Ai0 fds mvds:=List.mem_append_right _ (zT.2 ⟨d,hd,List.mem_map.2 ⟨i,(Abk hd32).2 h1,rfl⟩⟩);have hs0:=hf _ hmem b hb;have hnz:¬(Aa7 b (2^i)≠0):=fun hq=>by
   have:=Agz (m:=(d.1,2^i)) (b:=b) |>.2 ⟨h0,Ap9.2 ⟨i,hbi,by rw[Acu];simp⟩,hq⟩
   rw[this]at hs0;cases hs0
  have hb2:b=2^i:=by
   apply zE;intro j;cases hj:(2^i).testBit j with
   |true=>rw[Acu,decide_eq_true_eq]at hj;rw[<-hj];exact hbi
   |false=>
    cases hbj:b.testBit j with
    |false=>rfl
    |true=>exact absurd (Bid.2 ⟨j,hbj,hj⟩) hnz
  exact⟨hb2 ▸ hb,h1,hd1⟩
 constructor
 .exact ⟨0,h.zero,zE fun i=>by rw[Aa9];simp⟩
 .exact ⟨live,h.top,rfl⟩
 .rintro u ⟨r,hr,rfl⟩ i hi;rw[Aa9,zC]at hi⊢;exact⟨h.sub r hr i hi.1,hi.2⟩
 .intro i hi;rw[Aa9,zC]at hi;exact h.lsub i hi.1
 .rintro u ⟨r,hr,rfl⟩ b hb;rcases h.blk r hr b hb with hq|hq
  .refine .inl fun i h1 h2=>?_;rw[Aa9,zC]at h2;rw[Aa9,hq i h1 h2.1];rfl
  .refine .inr fun i h1 h2=>?_;rw[Aa9,zC]at h2;rw[Aa9,hq i h1 h2.1,h2.2];rfl
 .intro i h1 h2;rw[Aa9]at h2;cases hl:live.testBit i with
  |false=>exact h.dead i h1 hl
  |true=>
   rw[hl,zK,zO]at h2;obtain⟨a,b,c⟩:=key i h2;exact⟨a,d,hd,b,c⟩
structure Closed2(fds mvds:List (Nat×Nat))(T:Nat->Prop):Prop where
 fd:∀d∈fds,∀r s,T r->T s->Aax d.1 r s->Aax d.2 r s
 mv:∀m∈mvds,∀r s,T r->T s->Aax m.1 r s->T (mixR m r s)
def Alh(rest:Nat):List Nat:=if rest=0 then[]else[rest]
def finB(fds mvds:List (Nat×Nat))(rest:Nat):List Nat:=Afw (Ai0 fds mvds) 40 (Alh rest)
def Akl{rest:Nat}:BPart rest (Alh rest):=by
 unfold Alh
 split
 .rename_i h;subst h;exact⟨by simp,zH,fun i=>by simp⟩
 .rename_i h;exact⟨by simpa using h,by simp,fun i=>by simp⟩
def Ao1{fds mvds:List (Nat×Nat)}{rest:Nat}(hr:rest<2^32):BPart rest (finB fds mvds rest)/\BFin (Ai0 fds mvds) (finB fds mvds rest):=Aqc hr Akl (by omega)
def eqR(r s i:Nat):Prop:=r.testBit i=s.testBit i
def Bfi:EqOK eqR:=⟨fun _ _=>rfl,fun h=>Eq.symm h,fun h k=>Eq.trans h k⟩
def Bax{fds mvds:List (Nat×Nat)}{rest x:Nat}{T:Nat->Prop}(hr:rest<2^32)(hrx:rest &&& x=0)(hd:∀d∈fds,d.2<2^32)(hc:Closed2 fds mvds T)(hs:∀r,T r->∀i,r.testBit i=true->rest.testBit i=true):
  ∀b∈finB fds mvds rest,Exch T (fun r s=>∀i,i<32->x.testBit i=true->eqR r s i) eqR 32 b:=by
 have hm:∀m∈Ai0 fds mvds,MvH T eqR 32 m:=by
  have ext:∀{r s:Nat}{l:Nat},T r->T s->(∀i,i<32->l.testBit i=true->eqR r s i)->Aax l r s:=by
   intro r s l hr' hs' h i hi;by_cases hlt:i<32
   .exact h i hlt hi
   .have:∀u,T u->u.testBit i=false:=fun u hu=>by
     cases hq:u.testBit i with
     |false=>rfl
     |true=>exact absurd (Ad1.1 hr i (hs u hu i hq)) hlt
    rw[this r hr',this s hs']
  intro m hm r s hr' hs' h;rcases List.mem_append.1 hm with hm|hm
  .refine ⟨_,hc.mv m hm r s hr' hs' (ext hr' hs' h),fun i _ hi=>?_,fun i _ hi=>?_⟩
   .show (mixR m r s).testBit i=_;rw[Age,if_pos hi]
   .show (mixR m r s).testBit i=_;rw[Age,hi];rfl
  .obtain ⟨d,hdm,hm⟩:=zT.1 hm;obtain⟨a,ha,rfl⟩:=List.mem_map.1 hm;have ha:=(Abk (hd d hdm)).1 ha;have hag:=hc.fd d hdm r s hr' hs' (ext hr' hs' h);refine⟨s,hs',fun i hi hq=>?_,fun i _ _=>rfl⟩;rw[zD,Bool.or_eq_true]at hq;rcases hq with hq|hq
   .exact (h i hi hq).symm
   .have:(2^a).testBit i=true:=hq;rw[Acu,decide_eq_true_eq]at this;subst this;exact(hag a ha).symm
 refine Arm Bfi (fun _ _=>Iff.rfl) hrx hm Akl ?_;intro b hb r s hr' hs' ha;have hb:b=rest:=by
  unfold Alh at hb
  split at hb
  .cases hb
  .simpa using hb
 subst hb;refine⟨r,hr',ha,fun _ _ _=>rfl,fun _ _ _=>rfl,fun i _ hi=>?_⟩;have:∀u,T u->u.testBit i=false:=fun u hu=>by
  cases hq:u.testBit i with
  |false=>rfl
  |true=>rw[hs u hu i hq]at hi;cases hi
 show r.testBit i=s.testBit i;rw[this r hr',this s hs']
section
variable{fds mvds:List (Nat×Nat)}{rest x live:Nat}{T:Nat->Prop}
def Blp(hr:rest<2^32)(hs:∀r,T r->∀i,r.testBit i=true->rest.testBit i=true){u v:Nat}(hu:T u)(hv:∀i,v.testBit i=true->rest.testBit i=true)(h:∀i,i<32->u.testBit i=v.testBit i):u=v:=by
 apply zE;intro i;by_cases hi:i<32
 .exact h i hi
 .have h1:u.testBit i=false:=by
   cases hq:u.testBit i with
   |false=>rfl
   |true=>exact absurd (Ad1.1 hr i (hs u hu i hq)) hi
  have h2:v.testBit i=false:=by
   cases hq:v.testBit i with
   |false=>rfl
   |true=>exact absurd (Ad1.1 hr i (hv i hq)) hi
  rw[h1,h2]
def Bi9(hr:rest<2^32)(hrx:rest &&& x=0)(hd:∀d∈fds,d.2<2^32)(hci:CI fds (finB fds mvds rest) rest live T)(hc:Closed2 fds mvds T)(i:Nat):(rest.testBit i=true/\live.testBit i=false)↔(2^i∈finB fds mvds rest/\∃d∈fds,d.2.testBit i=true/\d.1.testBit i=false):=by
 have hs:∀r,T r->∀i,r.testBit i=true->rest.testBit i=true:=fun r hr i hi=>hci.lsub i (hci.sub r hr i hi);constructor
 .rintro ⟨h1,h2⟩;exact hci.dead i h1 h2
 .rintro ⟨hb,d,hdm,h1,h2⟩;have hp:=(Ao1 (fds:=fds) (mvds:=mvds) hr).1;have hri:rest.testBit i=true:=(hp.all i).2 ⟨_,hb,by rw[Acu];simp⟩;refine⟨hri,?_⟩;cases hl:live.testBit i with
  |false=>rfl
  |true=>
   have hi32:i<32:=Ad1.1 hr i hri;obtain⟨u,hu,_,_,h4,h5⟩:=Bax hr hrx hd hc hs _ hb 0 live hci.zero hci.top (fun j _ hj=>by
    have hrj:rest.testBit j=false:=by
     cases hq:rest.testBit j with
     |false=>rfl
     |true=>rw[Abx.1 hrx j hq]at hj;cases hj
    show(0:Nat).testBit j=live.testBit j;have:live.testBit j=false:=by
     cases hq:live.testBit j with
     |false=>rfl
     |true=>rw[hci.lsub j hq]at hrj;cases hrj
    rw[this,zF])
   have hui:u.testBit i=false:=by
    have:=h4 i hi32 (by rw[Acu];simp);unfold eqR at this;rw[this,zF]
   have hag:Aax d.1 u live:=by
    intro j hj;by_cases hj32:j<32
    .refine h5 j hj32 ?_;rw[Acu,decide_eq_false_iff_not];rintro rfl;rw[h2]at hj;cases hj
    .have:∀v,T v->v.testBit j=false:=fun v hv=>by
      cases hq:v.testBit j with
      |false=>rfl
      |true=>exact absurd (Ad1.1 hr j (hs v hv j hq)) hj32
     rw[this u hu,this live hci.top]
   have:=hc.fd d hdm u live hu hci.top hag i h1;rw[hui,hl]at this;cases this
def Bbp(hr:rest<2^32)(hrx:rest &&& x=0)(hd:∀d∈fds,d.2<2^32)(hci:CI fds (finB fds mvds rest) rest live T)(hc:Closed2 fds mvds T)(y:Nat):T (Aa7 live (x ||| y))↔∀b∈finB fds mvds rest,b &&& y=0∨Aa7 b y=0:=by
 have hs:∀r,T r->∀i,r.testBit i=true->rest.testBit i=true:=fun r hr i hi=>hci.lsub i (hci.sub r hr i hi);have hp:=(Ao1 (fds:=fds) (mvds:=mvds) hr).1;have hxr:∀i,rest.testBit i=true->x.testBit i=false:=fun i hi=>Abx.1 hrx i hi;constructor
 .intro ht b hb;rcases hci.whole hp hb with hw|⟨j,rfl,hj⟩
  .rcases hci.blk _ ht b hb with hq|hq
   .refine .inr (Afi.2 fun i hi=>?_);have:=hq i hi (hw i hi);rw[Aa9,hw i hi,zK,zO,zD,hxr i ((hp.all i).2 ⟨b,hb,hi⟩),Bool.false_or]at this;exact this
   .refine .inl (Abx.2 fun i hi=>?_);have:=hq i hi (hw i hi);rw[Aa9,zC,Bool.not_eq_true',zD,Bool.or_eq_false_iff]at this;exact this.2.2
  .cases hy:y.testBit j with
   |true=>
    refine .inr (Afi.2 fun i hi=>?_);rw[Acu,decide_eq_true_eq]at hi;rw[<-hi];exact hy
   |false=>
    refine .inl (Abx.2 fun i hi=>?_);rw[Acu,decide_eq_true_eq]at hi;rw[<-hi];exact hy
 .intro h;obtain⟨z,hz,hzb⟩:=Atm Bfi (fun _ _=>Iff.rfl) (fun b=>decide (b &&& y≠0)) (Bax hr hrx hd hc hs);have hag:∀u v,T u->T v->∀i,i<32->x.testBit i=true->eqR u v i:=fun u v hu hv i _ hxi=>by
   have:∀w,T w->w.testBit i=false:=fun w hw=>by
    cases hq:w.testBit i with
    |false=>rfl
    |true=>rw[hxr i (hs w hw i hq)]at hxi;cases hxi
   show u.testBit i=v.testBit i;rw[this u hu,this v hv]
  obtain⟨u,hu,_,_,h4,h5⟩:=hz 0 live hci.zero hci.top (hag 0 live hci.zero hci.top);have:u=Aa7 live (x ||| y):=by
   refine Blp hr hs hu (fun i hi=>?_) fun i hi=>?_
   .rw [Aa9,zC]at hi;exact hci.lsub i hi.1
   .rw [Aa9,zD];cases hzi:z.testBit i with
    |true=>
     have h1:u.testBit i=false:=by
      have:=h4 i hi hzi;unfold eqR at this;rw[this,zF]
     obtain⟨b,hb,hbi,hby⟩:=(hzb i).1 hzi;rw[decide_eq_true_eq]at hby;have:=Afi.1 ((h b hb).resolve_left hby) i hbi;rw[h1,this];simp
    |false=>
     have h1:u.testBit i=live.testBit i:=h5 i hi hzi;rw[h1];cases hl:live.testBit i with
     |false=>rfl
     |true=>
      have hri:=hci.lsub i hl;obtain⟨b,hb,hbi⟩:=(hp.all i).1 hri;have hy:y.testBit i=false:=by
       cases hq:y.testBit i with
       |false=>rfl
       |true=>
        have:=(hzb i).2 ⟨b,hb,hbi,decide_eq_true (Ap9.2 ⟨i,hbi,hq⟩)⟩;rw[hzi]at this;cases this
      rw[hxr i hri,hy];rfl
  rw[<-this];exact hu
end
end Go.Own
