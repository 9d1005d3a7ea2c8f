/- What the functions answer. No conditions. -/
import Derived.Laws.Strings
import Derived.Test.YtmiedlcblpiemaaGreatDoorRefuteSmallestLaw4
set_option linter.all false
open List renaming pairwise_cons->zA,mem_cons->zB,mem_filter->zM
open Nat renaming testBit_two_pow_mul_add->zC,pow_le_pow_right->zD,testBit_add_one->zE,lt_of_lt_of_le->zF,pos_of_ne_zero->zG,lt_trichotomy->zI
open Int renaming toNat_natCast->zH
open List.Pairwise renaming nil->zK
open Bool renaming and_eq_true->zL
namespace Go.Own
def cmpI(a b:Int):Int:=if a<b then -1 else if b<a then 1 else 0
theorem down{n : Nat}{P : Nat -> Prop}(h0 : P n)(hs : ∀k, k < n -> P (k + 1) -> P k) : ∀k, k <= n -> P k := by
  have : ∀m k, k + m = n -> P k := by
    intro m
    induction m with
    | zero => intro k hk; have : k = n := by omega
              subst this; exact h0
    |succ m ih => intro k hk; exact hs k (by omega) (ih (k + 1) (by omega))
  intro k hk;exact this (n - k) k (by omega)
def Alv{α:Type}(p:α->Bool):List α->Nat->Int
 |[],_=>-1
 |a::r,k=>if p a=true then(k:Int)else Alv p r (k+1)
def ixI{α:Type}(p:α->Bool)(l:List α):Int:=Alv p l 0
theorem As7{α:Type}{p:α->Bool}:∀{l:List α}{k:Nat},decide (0<=Alv p l k)=l.any p
 |[],_=>rfl
 |a::r,k=>by
  simp only[Alv,List.any_cons]
  split
  .rename_i h;simp[h]
  .rename_i h;rw[As7,Bool.eq_false_iff.2 h];simp
theorem Apg{α:Type}{p:α->Bool}{l:List α}:decide (0<=ixI p l)=l.any p:=As7
theorem Aje{α : Type}{l : List α}{p : α -> Bool}{L : Int -> Prop}{φ : Int -> Prop}(stop : φ (-1) -> L (l.length : Int))
    (step : ∀(k : Nat) a, l[k]?=some a -> k < l.length -> (if p a = true then φ (k : Int)else L ((k + 1 : Nat) : Int)) -> L k) (h : φ (ixI p l)) : L 0 := by
  have : ∀(r : List α)(k : Nat), l.drop k = r -> k <= l.length -> φ (Alv p r k) -> L k := by
    intro r
    induction r with
    | nil => intro k hd hk h; have : k = l.length := by have := Abe hd; omega
             subst this; exact stop h
    |cons a r ih =>
      intro k hd hk h;have hlt := Abf hd;refine step k a (Ab0 hd) hlt ?_;simp only[Alv]at h
      split
      · rename_i hp; rw[if_pos hp]at h; exact h
      · rename_i hp; rw[if_neg hp]at h; exact ih (k + 1) (Aah hd) hlt h
  exact this l 0 rfl (Nat.zero_le _) h
theorem Ami{α : Type}{l : List α}{p : α -> Bool}{L : Int -> Prop}{φ : Bool -> Prop}(stop : φ true -> L (l.length : Int))
    (step : ∀(k : Nat) a, l[k]?=some a -> k < l.length -> (if p a = true then L ((k + 1 : Nat) : Int)else φ false) -> L k) (h : φ (l.all p)) : L 0 := by
  have : ∀(r : List α)(k : Nat), l.drop k = r -> k <= l.length -> φ (r.all p) -> L k := by
    intro r
    induction r with
    | nil => intro k hd hk h; have : k = l.length := by have := Abe hd; omega
             subst this; exact stop h
    |cons a r ih =>
      intro k hd hk h;have hlt := Abf hd;refine step k a (Ab0 hd) hlt ?_;simp only[List.all_cons]at h
      split
      · rename_i hp; rw[hp, Bool.true_and]at h; exact ih (k + 1) (Aah hd) hlt h
      · rename_i hp
        have hp : p a = false := by simpa using hp
        rw[hp, Bool.false_and]at h; exact h
  exact this l 0 rfl (Nat.zero_le _) h
theorem Aau{α:Type}{l:List α}{k:Nat}{a:α}(h:l[k]?=some a):lget l (k:Int)=some a:=by rw[Abk];exact h
theorem Apc{s:ByteArray}:s.toList=s.data.toList:=ByteArray.toList_eq s
theorem Ajs{a b:ByteArray}:a.toList=b.toList↔a=b:=by
 constructor
 .intro h;rw[Apc,Apc]at h;obtain⟨⟨a⟩⟩:=a;obtain⟨⟨b⟩⟩:=b;simp only at h;rw[h]
 .rintro rfl;rfl
theorem Acn{s:ByteArray}:Adf s=(s.toList.length:Int):=by
 rw[Apc];rfl
theorem bget{s:ByteArray}{i:Nat}:s[i]?=s.toList[i]?:=by
 rw[Apc];by_cases h:i<s.size
 .rw [getElem?_pos s i h,List.getElem?_eq_getElem (by exact h)];rfl
 .rw [getElem?_neg s i h,List.getElem?_eq_none (by simpa using h)]
theorem Aeb{s:ByteArray}{k:Nat}{b:UInt8}(h:s.toList[k]?=some b):(0:Int)<=(k:Int)/\s[((k:Nat):Int).toNat]?=some b:=⟨by omega,by rw[zH,bget];exact h⟩
theorem Bb5{l:List UInt8}:(⟨l.toArray⟩:ByteArray).toList=l:=by rw[Apc]
theorem Atj{l:List UInt8}:(bstr l).toList=l:=Bb5
theorem Az1{b:UInt8}:0<=u8i b/\u8i b<256:=by
 unfold u8i;have:=b.toNat_lt;omega
theorem Am8{a b:UInt8}:u8i a=u8i b↔a=b:=by
 unfold u8i;constructor
 .intro h;exact UInt8.toNat_inj.1 (by omega)
 .rintro rfl;rfl
theorem At2{l m:List Nat}(hl:l.Pairwise (·<·))(hm:m.Pairwise (·<·))(h:∀x,x∈l↔x∈m):l=m:=by
 induction l generalizing m with
 |nil=>
  cases m with
  |nil=>rfl
  |cons b m=>have:=(h b).2 (by simp);simp at this
 |cons a l ih=>
  cases m with
  |nil=>have:=(h a).1 (by simp);simp at this
  |cons b m=>
   have ha:=zA.1 hl;have hb:=zA.1 hm;have e:a=b:=by
    rcases zB.1 ((h a).1 (by simp))with h1|h1
    .exact h1
    .rcases zB.1 ((h b).2 (by simp))with h2|h2
     .exact h2.symm
     .have:=hb.1 a h1;have:=ha.1 b h2;omega
   subst e;rw[ih ha.2 hb.2];intro x;constructor
   .intro hx;rcases zB.1 ((h x).1 (by simp[hx]))with h1|h1
    .subst h1;have:=ha.1 x hx;omega
    .exact h1
   .intro hx;rcases zB.1 ((h x).2 (by simp[hx]))with h1|h1
    .subst h1;have:=hb.1 x hx;omega
    .exact h1
def Aag(n:Nat):List Nat:=(List.range 32).filter fun i=>n.testBit i
theorem Acm{n i:Nat}(h:n<2^32):i∈Aag n↔n.testBit i=true:=by
 unfold Aag;simp only[zM,List.mem_range];constructor
 .exact fun h=>h.2
 .intro hi;refine⟨?_,hi⟩
  false_or_by_contra
  rename_i hn;rw[Nat.testBit_lt_two_pow (zF h (zD (by decide) (by omega)))]at hi;cases hi
theorem Agj{n:Nat}:(Aag n).Pairwise (·<·):=List.pairwise_lt_range.filter _
theorem Afz{n:Nat}:(Aag n).length<=32:=Nat.le_trans (List.length_filter_le _ _) (by simp)
theorem Azg:Aag 0=[]:=by
 unfold Aag;rw[List.filter_eq_nil_iff];simp
theorem Ayj{x:Nat}:∀{n k:Nat},(∀j,j<k->x.testBit j=false)->(∃j,j<n+k/\x.testBit j=true)->x.testBit (Aci x n k)=true/\∀j,j<Aci x n k->x.testBit j=false
 |0,k,h,⟨j,h1,h2⟩=>by rw[h j (by omega)]at h2;cases h2
 |n+1,k,h,⟨j,h1,h2⟩=>by
  simp only[Aci]
  split
  .rename_i hk;exact⟨hk,h⟩
  .rename_i hk;refine Ayj (fun i hi=>?_) ⟨j,by omega,h2⟩;by_cases hik:i=k
   .subst hik;simpa using hk
   .exact h i (by omega)
theorem Bkg{n:Nat}(h0:n≠0)(h:n<2^32):∃j,j<32/\n.testBit j=true:=by
 obtain⟨j,hj⟩:=Nat.exists_testBit_of_ne_zero h0;exact⟨j,by have:=(Acm h).2 hj;unfold Aag at this;simpa using(zM.1 this).1,hj⟩
theorem Bdc{n i:Nat}(hi:n.testBit i=true)(hl:∀j,j<i->n.testBit j=false)(j:Nat):(n &&& (n-1)).testBit j=(n.testBit j&&decide (j≠i)):=by
 have e:n=2^i*(2*(n / 2^(i+1))+1):=by
  have h1:n%2^i=0:=by
   apply Nat.eq_of_testBit_eq;intro j;rw[Nat.testBit_mod_two_pow,Nat.zero_testBit];by_cases hj:j<i
   .rw [hl j hj];simp
   .simp [hj]
  have h2:n / 2^i%2=1:=by rw[Nat.testBit_eq_decide_div_mod_eq]at hi;simpa using hi
  have h3:=Nat.div_add_mod n (2^i);have h4:n / 2^(i+1)=n / 2^i / 2:=by rw[Nat.pow_succ,Nat.div_div_eq_div_mul]
  rw[h4];have h5:2*(n / 2^i / 2)+1=n / 2^i:=by omega
  rw[h5];omega
 generalize hm:n / 2^(i+1)=m at e;have hp:0<2^i:=zG (by simp);have e1:n-1=2^i*(2*m)+(2^i-1):=by rw[e,Nat.mul_add];omega
 have e2:n=2^i*(2*m+1)+0:=by rw[e];rfl
 rw[Nat.testBit_and,e1,zC _ (by omega)];by_cases h1:j<i
 .rw [hl j h1];rfl
 .rw [if_neg h1];by_cases h2:j=i
  .subst h2;simp[Nat.testBit_zero]
  .have h3:(2*m).testBit (j-i)=n.testBit j:=by
    rw[e2,zC _ (by omega),if_neg h1];obtain⟨q,hq⟩:∃q,j-i=q+1:=⟨j-i-1,by omega⟩
    rw[hq,zE,zE];congr 1;omega
   rw[h3];simp[h2]
theorem Azf{n:Nat}(h0:n≠0)(h:n<2^32):Aag n=Aci n 32 0::Aag (n &&& (n-1)):=by
 obtain⟨h1,h2⟩:=Ayj (x:=n) (n:=32) (k:=0) (fun j hj=>by omega) (by simpa using Bkg h0 h);have hlt:(n &&& (n-1))<2^32:=Nat.lt_of_le_of_lt Nat.and_le_left h;have hb:=Bdc h1 h2;refine At2 Agj ?_ fun x=>?_
 .refine zA.2 ⟨fun y hy=>?_,Agj⟩;rw[Acm hlt,hb]at hy;simp only[zL,decide_eq_true_eq]at hy;rcases zI y (Aci n 32 0)with h3|h3|h3
  .rw [h2 y h3]at hy;cases hy.1
  .exact absurd h3 hy.2
  .exact h3
 .rw [zB,Acm h,Acm hlt,hb];simp only[zL,decide_eq_true_eq];by_cases hx:x=Aci n 32 0
  .simp [hx,h1]
  .simp [hx]
theorem Bfh{n:Nat}(h0:n≠0):(n &&& (n-1))<n:=by
 have:=Nat.and_le_right (n:=n) (m:=n-1);omega
def Ad3(k:Nat):Nat:=2^min k 32-1
theorem Akt{k i:Nat}:(Ad3 k).testBit i=decide (i<min k 32):=by
 unfold Ad3;rw[Nat.testBit_two_pow_sub_one]
theorem Axy{k:Nat}:Ad3 k<2^32:=by
 unfold Ad3;have:2^min k 32<=2^32:=zD (by decide) (Nat.min_le_right _ _);have h2:0<2^min k 32:=zG (by simp);omega
def sN(x:Int):Nat:=x.toNat
def U32(x:Int):Prop:=0<=x/\x<4294967296
theorem U32.eq{x:Int}(h:U32 x):x=(sN x:Int):=by have:=h.1;unfold sN;omega
theorem U32.lt{x:Int}(h:U32 x):sN x<2^32:=by have:=h.1;have:=h.2;unfold sN;omega
theorem U32.top{x:Int}(h:U32 x):sN x<2^top .u32:=by simpa[Go.Own.top]using h.lt
theorem U32.of{n:Nat}(h:n<2^32):U32 (n:Int):=⟨by omega,by omega⟩
theorem Asy{n:Nat}:sN (n:Int)=n:=zH n
theorem U32.ext{x y:Int}(hx:U32 x)(hy:U32 y)(h:sN x=sN y):x=y:=by rw[hx.eq,hy.eq,h]
theorem Bh9{α:Type}(f:α->Nat){l m:List α}(hl:l.Pairwise (fun a b=>f a<f b))(hm:m.Pairwise (fun a b=>f a<f b))(h:∀x,x∈l↔x∈m):l=m:=by
 induction l generalizing m with
 |nil=>
  cases m with
  |nil=>rfl
  |cons b m=>have:=(h b).2 (by simp);simp at this
 |cons a l ih=>
  cases m with
  |nil=>have:=(h a).1 (by simp);simp at this
  |cons b m=>
   have ha:=zA.1 hl;have hb:=zA.1 hm;have e:a=b:=by
    rcases zB.1 ((h a).1 (by simp))with h1|h1
    .exact h1
    .rcases zB.1 ((h b).2 (by simp))with h2|h2
     .exact h2.symm
     .have:=hb.1 a h1;have:=ha.1 b h2;omega
   subst e;rw[ih ha.2 hb.2];intro x;constructor
   .intro hx;rcases zB.1 ((h x).1 (by simp[hx]))with h1|h1
    .subst h1;have:=ha.1 x hx;omega
    .exact h1
   .intro hx;rcases zB.1 ((h x).2 (by simp[hx]))with h1|h1
    .subst h1;have:=hb.1 x hx;omega
    .exact h1
def szN(n:Nat):Nat:=(Aag n).length
def keyS(x:Int):Nat:=szN (sN x)*4294967296+sN x
theorem Ayb{x y:Int}(hx:U32 x)(hy:U32 y)(h:keyS x=keyS y):x=y:=by
 have h1:=hx.lt;have h2:=hy.lt;unfold keyS at h;exact hx.ext hy (by omega)
theorem Bao{x y:Int}(hx:U32 x)(hy:U32 y):keyS x<keyS y↔szN (sN x)<szN (sN y)∨szN (sN x)=szN (sN y)/\sN x<sN y:=by
 have h1:=hx.lt;have h2:=hy.lt;unfold keyS;constructor
 .intro h;rcases zI (szN (sN x)) (szN (sN y))with h3|h3|h3
  .exact .inl h3
  .rw [h3]at h;exact .inr ⟨h3,by omega⟩
  .omega
 .rintro (h|⟨h,h3⟩)
  .omega
  .omega
abbrev AllU(l:List Int):Prop:=∀x∈l,U32 x
abbrev Asc(l:List Int):Prop:=l.Pairwise (fun a b=>keyS a<keyS b)
def insS(x:Int):List Int->List Int
 |[]=>[x]
 |a::r=>if keyS x<keyS a then x::a::r else if keyS x=keyS a then a::r else a::insS x r
theorem Amu{x:Int}(hx:U32 x):∀{l:List Int},AllU l->∀y,y∈insS x l↔y=x∨y∈l
 |[],_,y=>by simp[insS]
 |a::r,hl,y=>by
  simp only[insS];have ha:=hl a (by simp)
  split
  .simp
  .split
   .rename_i h;have e:=Ayb hx ha h;subst e;simp
   .rw [zB,Amu hx (fun z hz=>hl z (by simp[hz])),zB];constructor
    .rintro (h|h|h)<;>simp[h]
    .rintro (h|h|h)<;>simp[h]
theorem Ay7{x:Int}(hx:U32 x):∀{l:List Int},AllU l->Asc l->Asc (insS x l)
 |[],_,_=>by simp[insS]
 |a::r,hl,h=>by
  simp only[insS];have ha:=zA.1 h
  split
  .rename_i h1;refine zA.2 ⟨fun y hy=>?_,h⟩;rcases zB.1 hy with rfl|hy
   .exact h1
   .exact Nat.lt_trans h1 (ha.1 y hy)
  .split
   .exact h
   .rename_i h1 h2;refine zA.2 ⟨fun y hy=>?_,Ay7 hx (fun z hz=>hl z (by simp[hz])) ha.2⟩;rcases(Amu hx (fun z hz=>hl z (by simp[hz])) y).1 hy with rfl|hy
    .omega
    .exact ha.1 y hy
def ordL(l:List Int):List Int:=l.foldl (fun acc x=>insS x acc) []
theorem Bak{l:List Int}:∀{acc:List Int},AllU l->AllU acc->Asc acc->AllU (l.foldl (fun acc x=>insS x acc) acc)/\Asc (l.foldl (fun acc x=>insS x acc) acc)/\∀y,y∈l.foldl (fun acc x=>insS x acc) acc↔y∈acc∨y∈l:=by
 induction l with
 |nil=>intro acc _ h1 h2;exact⟨h1,h2,by simp⟩
 |cons a l ih=>
  intro acc h h1 h2;have ha:=h a (by simp);have h3:AllU (insS a acc):=fun y hy=>by
   rcases(Amu ha h1 y).1 hy with rfl|hy
   .exact ha
   .exact h1 y hy
  obtain⟨i1,i2,i3⟩:=ih (acc:=insS a acc) (fun y hy=>h y (by simp[hy])) h3 (Ay7 ha h1 h2);refine⟨i1,i2,fun y=>?_⟩;rw[List.foldl_cons,i3,Amu ha h1,zB];constructor
  .rintro ((h|h)|h)<;>simp[h]
  .rintro (h|h|h)<;>simp[h]
theorem An1{l:List Int}(h:AllU l):Asc (ordL l):=(Bak h (fun _ h=>by cases h) zK).2.1
theorem An2{l:List Int}(h:AllU l)(y:Int):y∈ordL l↔y∈l:=by
 have:=(Bak h (acc:=[]) (fun _ h=>by cases h) zK).2.2 y;unfold ordL;simpa using this
theorem Bat{l m:List Int}(h:AllU l)(hm:Asc m)(hx:∀y,y∈m↔y∈l):m=ordL l:=
 Bh9 keyS hm (An1 h) fun y=>by rw[hx,An2 h]
theorem Bc4{l m:List Int}(h:AllU l)(hx:∀y,y∈m↔y∈l):ordL m=ordL l:=by
 have hm:AllU m:=fun y hy=>h y ((hx y).1 hy);exact Bat h (An1 hm) fun y=>by rw[An2 hm,hx]
def Aaz:List Int->List Int
 |[]=>[]
 |[a]=>[a]
 |a::b::r=>if a=b then Aaz (b::r)else a::Aaz (b::r)
theorem Ahb:∀{l:List Int}(y:Int),y∈Aaz l↔y∈l
 |[],y=>by simp[Aaz]
 |[a],y=>by simp[Aaz]
 |a::b::r,y=>by
  simp only[Aaz]
  split
  .rename_i h;subst h;rw[Ahb];simp
  .rw [zB,Ahb];simp
theorem Aju:∀{l:List Int},AllU l->l.Pairwise (fun a b=>keyS a<=keyS b)->Asc (Aaz l)
 |[],_,_=>by simp[Aaz]
 |[a],_,_=>by simp[Aaz]
 |a::b::r,hu,h=>by
  have h1:=zA.1 h;simp only[Aaz]
  split
  .exact Aju (fun z hz=>hu z (by simp[hz])) h1.2
  .rename_i hne;refine zA.2 ⟨fun y hy=>?_,Aju (fun z hz=>hu z (by simp[hz])) h1.2⟩;have hy:=(Ahb y).1 hy;have hab:keyS a<keyS b:=by
    have:=h1.1 b (by simp);rcases Nat.lt_or_eq_of_le this with h2|h2
    .exact h2
    .exact absurd (Ayb (hu a (by simp)) (hu b (by simp)) h2) hne
   rcases zB.1 hy with rfl|hy
   .exact hab
   .exact zF hab ((zA.1 h1.2).1 y hy)
end Go.Own
