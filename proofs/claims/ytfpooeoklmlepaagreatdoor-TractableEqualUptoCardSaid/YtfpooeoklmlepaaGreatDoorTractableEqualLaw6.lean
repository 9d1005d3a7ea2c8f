/- No conditions. -/
import Derived.Laws.Strings
import Derived.Test.YtfpooeoklmlepaaGreatDoorTractableEqualLaw3
import Derived.Test.YtfpooeoklmlepaaGreatDoorTractableEqualLaw1
set_option linter.all false
open List renaming pairwise_cons->zA,mem_cons->zB,getElem?_eq_some_iff->zC,getElem?_map->zD,mem_filter->zI,length_map->zL,filter_eq_nil_iff->zP,length_filter_le->zQ,length_cons->zY,filter_cons->zZ,foldl_cons->yA,map_append->yB
open Nat renaming pow_le_pow_right->zE,lt_of_lt_of_le->zF,testBit_two_pow_mul_add->zG,lt_trichotomy->zH,testBit_and->zK,zero_le->zN,testBit_lt_two_pow->zO,eq_of_testBit_eq->zR,testBit_add_one->zS,pos_of_ne_zero->zT,zero_testBit->zW
open Option renaming map_some->zM
open Int renaming toNat_natCast->zU
open List.Pairwise renaming nil->zV
open Bool renaming and_eq_true->zX
namespace Go.Own
def cmpI(a b:Int):Int:=if a<b then -1 else if b<a then 1 else 0
theorem down{n : Nat}{P : Nat -> Prop}(h0 : P n)(hs : ∀k, k < n -> P (k + 1) -> P k) : ∀k, k <= n -> P k := by
  have : ∀m k, k + m = n -> P k := by
    intro m
    induction m with
    | zero => intro k hk; have : k = n := by omega
              subst this; exact h0
    |succ m ih => intro k hk; exact hs k (by omega) (ih (k + 1) (by omega))
  intro k hk;exact this (n - k) k (by omega)
def All{α:Type}(p:α->Bool):List α->Nat->Int
 |[],_=>-1
 |a::r,k=>if p a=true then(k:Int)else All p r (k+1)
def ixI{α:Type}(p:α->Bool)(l:List α):Int:=All p l 0
theorem Arw{α:Type}{p:α->Bool}:∀{l:List α}{k:Nat},decide (0<=All p l k)=l.any p
 |[],_=>rfl
 |a::r,k=>by
  simp only[All,List.any_cons]
  split
  .rename_i h;simp[h]
  .rename_i h;rw[Arw,Bool.eq_false_iff.2 h];simp
theorem Ads{α:Type}{p:α->Bool}{l:List α}:decide (0<=ixI p l)=l.any p:=Arw
theorem Acf{α : Type}{l : List α}{p : α -> Bool}{L : Int -> Prop}{φ : Int -> Prop}(stop : φ (-1) -> L (l.length : Int))
    (step : ∀(k : Nat) a, l[k]?=some a -> k < l.length -> (if p a = true then φ (k : Int)else L ((k + 1 : Nat) : Int)) -> L k) (h : φ (ixI p l)) : L 0 := by
  have : ∀(r : List α)(k : Nat), l.drop k = r -> k <= l.length -> φ (All p r k) -> L k := by
    intro r
    induction r with
    | nil => intro k hd hk h; have : k = l.length := by have := Ab6 hd; omega
             subst this; exact stop h
    |cons a r ih =>
      intro k hd hk h;have hlt := Ab7 hd;refine step k a (Ab4 hd) hlt ?_;simp only[All]at h
      split
      · rename_i hp; rw[if_pos hp]at h; exact h
      · rename_i hp; rw[if_neg hp]at h; exact ih (k + 1) (Aaq hd) hlt h
  exact this l 0 rfl (zN _) h
theorem Ajn{α : Type}{l : List α}{p : α -> Bool}{L : Int -> Prop}{φ : Bool -> Prop}(stop : φ true -> L (l.length : Int))
    (step : ∀(k : Nat) a, l[k]?=some a -> k < l.length -> (if p a = true then L ((k + 1 : Nat) : Int)else φ false) -> L k) (h : φ (l.all p)) : L 0 := by
  have : ∀(r : List α)(k : Nat), l.drop k = r -> k <= l.length -> φ (r.all p) -> L k := by
    intro r
    induction r with
    | nil => intro k hd hk h; have : k = l.length := by have := Ab6 hd; omega
             subst this; exact stop h
    |cons a r ih =>
      intro k hd hk h;have hlt := Ab7 hd;refine step k a (Ab4 hd) hlt ?_;simp only[List.all_cons]at h
      split
      · rename_i hp; rw[hp, Bool.true_and]at h; exact ih (k + 1) (Aaq hd) hlt h
      · rename_i hp
        have hp : p a = false := by simpa using hp
        rw[hp, Bool.false_and]at h; exact h
  exact this l 0 rfl (zN _) h
theorem Aqa{α : Type}{l : List α}{p : α -> Bool}{L : Int -> Prop}{φ : Bool -> Prop}(stop : φ false -> L (l.length : Int))
    (step : ∀(k : Nat) a, l[k]?=some a -> k < l.length -> (if p a = true then φ true else L ((k + 1 : Nat) : Int)) -> L k) (h : φ (l.any p)) : L 0 := by
  have : ∀(r : List α)(k : Nat), l.drop k = r -> k <= l.length -> φ (r.any p) -> L k := by
    intro r
    induction r with
    | nil => intro k hd hk h; have : k = l.length := by have := Ab6 hd; omega
             subst this; exact stop h
    |cons a r ih =>
      intro k hd hk h;have hlt := Ab7 hd;refine step k a (Ab4 hd) hlt ?_;simp only[List.any_cons]at h
      split
      · rename_i hp; rw[hp, Bool.true_or]at h; exact h
      · rename_i hp
        have hp : p a = false := by simpa using hp
        rw[hp, Bool.false_or]at h; exact ih (k + 1) (Aaq hd) hlt h
  exact this l 0 rfl (zN _) h
theorem Bcy{α σ : Type}{l : List α}{f : σ -> α -> σ}{Inv : Nat -> σ -> Prop}{L : σ -> Int -> Prop}{K : σ -> Prop}
    (stop : ∀s, Inv l.length s -> K s -> L s (l.length : Int))
    (step : ∀(k : Nat) a s, l[k]?=some a -> k < l.length -> Inv k s -> Inv (k + 1) (f s a)/\(L (f s a) ((k + 1 : Nat) : Int) -> L s k))
    {s : σ} (h0 : Inv 0 s) (h : K (l.foldl f s)) : L s 0 := by
  have : ∀(r : List α)(k : Nat)(s : σ), l.drop k = r -> k <= l.length -> Inv k s -> K (r.foldl f s) -> L s k := by
    intro r
    induction r with
    | nil => intro k s hd hk hi h; have : k = l.length := by have := Ab6 hd; omega
             subst this; exact stop s hi h
    |cons a r ih =>
      intro k s hd hk hi h;have hlt := Ab7 hd;obtain⟨h1, h2⟩ := step k a s (Ab4 hd) hlt hi;exact h2 (ih (k + 1) _ (Aaq hd) hlt h1 h)
  exact this l 0 s rfl (zN _) h0 h
theorem Aa8{α:Type}{l:List α}{k:Nat}{a:α}(h:l[k]?=some a):lget l (k:Int)=some a:=by rw[Aci];exact h
theorem Arb{s:ByteArray}:s.toList=s.data.toList:=ByteArray.toList_eq s
theorem Ald{a b:ByteArray}:a.toList=b.toList↔a=b:=by
 constructor
 .intro h;rw[Arb,Arb]at h;obtain⟨⟨a⟩⟩:=a;obtain⟨⟨b⟩⟩:=b;simp only at h;rw[h]
 .rintro rfl;rfl
theorem Aco{s:ByteArray}:Ad5 s=(s.toList.length:Int):=by
 rw[Arb];rfl
theorem bget{s:ByteArray}{i:Nat}:s[i]?=s.toList[i]?:=by
 rw[Arb];by_cases h:i<s.size
 .rw [getElem?_pos s i h,List.getElem?_eq_getElem (by exact h)];rfl
 .rw [getElem?_neg s i h,List.getElem?_eq_none (by simpa using h)]
theorem Aef{s:ByteArray}{k:Nat}{b:UInt8}(h:s.toList[k]?=some b):(0:Int)<=(k:Int)/\s[((k:Nat):Int).toNat]?=some b:=⟨by omega,by rw[zU,bget];exact h⟩
theorem Aos{l:List UInt8}:(⟨l.toArray⟩:ByteArray).toList=l:=by rw[Arb]
theorem Azo{l:List UInt8}:(bstr l).toList=l:=Aos
theorem Ayc{b:UInt8}:0<=u8i b/\u8i b<256:=by
 unfold u8i;have:=b.toNat_lt;omega
theorem Alw{a b:UInt8}:u8i a=u8i b↔a=b:=by
 unfold u8i;constructor
 .intro h;exact UInt8.toNat_inj.1 (by omega)
 .rintro rfl;rfl
theorem Asv{l m:List Nat}(hl:l.Pairwise (·<·))(hm:m.Pairwise (·<·))(h:∀x,x∈l↔x∈m):l=m:=by
 induction l generalizing m with
 |nil=>
  cases m with
  |nil=>rfl
  |cons b m=>have:=(h b).2 (by simp);simp at this
 |cons a l ih=>
  cases m with
  |nil=>have:=(h a).1 (by simp);simp at this
  |cons b m=>
   have ha:=zA.1 hl;have hb:=zA.1 hm;have e:a=b:=by
    rcases zB.1 ((h a).1 (by simp))with h1|h1
    .exact h1
    .rcases zB.1 ((h b).2 (by simp))with h2|h2
     .exact h2.symm
     .have:=hb.1 a h1;have:=ha.1 b h2;omega
   subst e;rw[ih ha.2 hb.2];intro x;constructor
   .intro hx;rcases zB.1 ((h x).1 (by simp[hx]))with h1|h1
    .subst h1;have:=ha.1 x hx;omega
    .exact h1
   .intro hx;rcases zB.1 ((h x).2 (by simp[hx]))with h1|h1
    .subst h1;have:=hb.1 x hx;omega
    .exact h1
def Aas(n:Nat):List Nat:=(List.range 32).filter fun i=>n.testBit i
theorem Ac7{n i:Nat}(h:n<2^32):i∈Aas n↔n.testBit i=true:=by
 unfold Aas;simp only[zI,List.mem_range];constructor
 .exact fun h=>h.2
 .intro hi;refine⟨?_,hi⟩
  false_or_by_contra
  rename_i hn;rw[zO (zF h (zE (by decide) (by omega)))]at hi;cases hi
theorem Af1{n:Nat}:(Aas n).Pairwise (·<·):=List.pairwise_lt_range.filter _
theorem Adw{n:Nat}:(Aas n).length<=32:=Nat.le_trans (zQ _ _) (by simp)
theorem Al1:Aas 0=[]:=by
 unfold Aas;rw[zP];simp
theorem Axp{x:Nat}:∀{n k:Nat},(∀j,j<k->x.testBit j=false)->(∃j,j<n+k/\x.testBit j=true)->x.testBit (Ack x n k)=true/\∀j,j<Ack x n k->x.testBit j=false
 |0,k,h,⟨j,h1,h2⟩=>by rw[h j (by omega)]at h2;cases h2
 |n+1,k,h,⟨j,h1,h2⟩=>by
  simp only[Ack]
  split
  .rename_i hk;exact⟨hk,h⟩
  .rename_i hk;refine Axp (fun i hi=>?_) ⟨j,by omega,h2⟩;by_cases hik:i=k
   .subst hik;simpa using hk
   .exact h i (by omega)
theorem Bk1{n:Nat}(h0:n≠0)(h:n<2^32):∃j,j<32/\n.testBit j=true:=by
 obtain⟨j,hj⟩:=Nat.exists_testBit_of_ne_zero h0;exact⟨j,by have:=(Ac7 h).2 hj;unfold Aas at this;simpa using(zI.1 this).1,hj⟩
theorem Aue{n i:Nat}(hi:n.testBit i=true)(hl:∀j,j<i->n.testBit j=false)(j:Nat):(n &&& (n-1)).testBit j=(n.testBit j&&decide (j≠i)):=by
 have e:n=2^i*(2*(n / 2^(i+1))+1):=by
  have h1:n%2^i=0:=by
   apply zR;intro j;rw[Nat.testBit_mod_two_pow,zW];by_cases hj:j<i
   .rw [hl j hj];simp
   .simp [hj]
  have h2:n / 2^i%2=1:=by rw[Nat.testBit_eq_decide_div_mod_eq]at hi;simpa using hi
  have h3:=Nat.div_add_mod n (2^i);have h4:n / 2^(i+1)=n / 2^i / 2:=by rw[Nat.pow_succ,Nat.div_div_eq_div_mul]
  rw[h4];have h5:2*(n / 2^i / 2)+1=n / 2^i:=by omega
  rw[h5];omega
 generalize hm:n / 2^(i+1)=m at e;have hp:0<2^i:=zT (by simp);have e1:n-1=2^i*(2*m)+(2^i-1):=by rw[e,Nat.mul_add];omega
 have e2:n=2^i*(2*m+1)+0:=by rw[e];rfl
 rw[zK,e1,zG _ (by omega)];by_cases h1:j<i
 .rw [hl j h1];rfl
 .rw [if_neg h1];by_cases h2:j=i
  .subst h2;simp[Nat.testBit_zero]
  .have h3:(2*m).testBit (j-i)=n.testBit j:=by
    rw[e2,zG _ (by omega),if_neg h1];obtain⟨q,hq⟩:∃q,j-i=q+1:=⟨j-i-1,by omega⟩
    rw[hq,zS,zS];congr 1;omega
   rw[h3];simp[h2]
theorem Apg{n:Nat}(h0:n≠0)(h:n<2^32):Aas n=Ack n 32 0::Aas (n &&& (n-1)):=by
 obtain⟨h1,h2⟩:=Axp (x:=n) (n:=32) (k:=0) (fun j hj=>by omega) (by simpa using Bk1 h0 h);have hlt:(n &&& (n-1))<2^32:=Nat.lt_of_le_of_lt Nat.and_le_left h;have hb:=Aue h1 h2;refine Asv Af1 ?_ fun x=>?_
 .refine zA.2 ⟨fun y hy=>?_,Af1⟩;rw[Ac7 hlt,hb]at hy;simp only[zX,decide_eq_true_eq]at hy;rcases zH y (Ack n 32 0)with h3|h3|h3
  .rw [h2 y h3]at hy;cases hy.1
  .exact absurd h3 hy.2
  .exact h3
 .rw [zB,Ac7 h,Ac7 hlt,hb];simp only[zX,decide_eq_true_eq];by_cases hx:x=Ack n 32 0
  .simp [hx,h1]
  .simp [hx]
theorem Bf2{n:Nat}(h0:n≠0):(n &&& (n-1))<n:=by
 have:=Nat.and_le_right (n:=n) (m:=n-1);omega
def Adx(k:Nat):Nat:=2^min k 32-1
theorem Auu{k i:Nat}:(Adx k).testBit i=decide (i<min k 32):=by
 unfold Adx;rw[Nat.testBit_two_pow_sub_one]
theorem Bfe{k:Nat}:Adx k<2^32:=by
 unfold Adx;have:2^min k 32<=2^32:=zE (by decide) (Nat.min_le_right _ _);have h2:0<2^min k 32:=zT (by simp);omega
def sN(x:Int):Nat:=x.toNat
def U32(x:Int):Prop:=0<=x/\x<4294967296
theorem U32.eq{x:Int}(h:U32 x):x=(sN x:Int):=by have:=h.1;unfold sN;omega
theorem U32.lt{x:Int}(h:U32 x):sN x<2^32:=by have:=h.1;have:=h.2;unfold sN;omega
theorem U32.top{x:Int}(h:U32 x):sN x<2^top .u32:=by simpa[Go.Own.top]using h.lt
theorem U32.of{n:Nat}(h:n<2^32):U32 (n:Int):=⟨by omega,by omega⟩
theorem Ais{n:Nat}:sN (n:Int)=n:=zU n
theorem U32.ext{x y:Int}(hx:U32 x)(hy:U32 y)(h:sN x=sN y):x=y:=by rw[hx.eq,hy.eq,h]
theorem Ata{α:Type}(f:α->Nat){l m:List α}(hl:l.Pairwise (fun a b=>f a<f b))(hm:m.Pairwise (fun a b=>f a<f b))(h:∀x,x∈l↔x∈m):l=m:=by
 induction l generalizing m with
 |nil=>
  cases m with
  |nil=>rfl
  |cons b m=>have:=(h b).2 (by simp);simp at this
 |cons a l ih=>
  cases m with
  |nil=>have:=(h a).1 (by simp);simp at this
  |cons b m=>
   have ha:=zA.1 hl;have hb:=zA.1 hm;have e:a=b:=by
    rcases zB.1 ((h a).1 (by simp))with h1|h1
    .exact h1
    .rcases zB.1 ((h b).2 (by simp))with h2|h2
     .exact h2.symm
     .have:=hb.1 a h1;have:=ha.1 b h2;omega
   subst e;rw[ih ha.2 hb.2];intro x;constructor
   .intro hx;rcases zB.1 ((h x).1 (by simp[hx]))with h1|h1
    .subst h1;have:=ha.1 x hx;omega
    .exact h1
   .intro hx;rcases zB.1 ((h x).2 (by simp[hx]))with h1|h1
    .subst h1;have:=hb.1 x hx;omega
    .exact h1
def szN(n:Nat):Nat:=(Aas n).length
def keyS(x:Int):Nat:=szN (sN x)*4294967296+sN x
theorem Aqn{x y:Int}(hx:U32 x)(hy:U32 y)(h:keyS x=keyS y):x=y:=by
 have h1:=hx.lt;have h2:=hy.lt;unfold keyS at h;exact hx.ext hy (by omega)
theorem Ba1{x y:Int}(hx:U32 x)(hy:U32 y):keyS x<keyS y↔szN (sN x)<szN (sN y)∨szN (sN x)=szN (sN y)/\sN x<sN y:=by
 have h1:=hx.lt;have h2:=hy.lt;unfold keyS;constructor
 .intro h;rcases zH (szN (sN x)) (szN (sN y))with h3|h3|h3
  .exact .inl h3
  .rw [h3]at h;exact .inr ⟨h3,by omega⟩
  .omega
 .rintro (h|⟨h,h3⟩)
  .omega
  .omega
abbrev AllU(l:List Int):Prop:=∀x∈l,U32 x
abbrev Asc(l:List Int):Prop:=l.Pairwise (fun a b=>keyS a<keyS b)
def insS(x:Int):List Int->List Int
 |[]=>[x]
 |a::r=>if keyS x<keyS a then x::a::r else if keyS x=keyS a then a::r else a::insS x r
theorem Agm{x:Int}(hx:U32 x):∀{l:List Int},AllU l->∀y,y∈insS x l↔y=x∨y∈l
 |[],_,y=>by simp[insS]
 |a::r,hl,y=>by
  simp only[insS];have ha:=hl a (by simp)
  split
  .simp
  .split
   .rename_i h;have e:=Aqn hx ha h;subst e;simp
   .rw [zB,Agm hx (fun z hz=>hl z (by simp[hz])),zB];constructor
    .rintro (h|h|h)<;>simp[h]
    .rintro (h|h|h)<;>simp[h]
theorem Ajt{x:Int}(hx:U32 x):∀{l:List Int},AllU l->Asc l->Asc (insS x l)
 |[],_,_=>by simp[insS]
 |a::r,hl,h=>by
  simp only[insS];have ha:=zA.1 h
  split
  .rename_i h1;refine zA.2 ⟨fun y hy=>?_,h⟩;rcases zB.1 hy with rfl|hy
   .exact h1
   .exact Nat.lt_trans h1 (ha.1 y hy)
  .split
   .exact h
   .rename_i h1 h2;refine zA.2 ⟨fun y hy=>?_,Ajt hx (fun z hz=>hl z (by simp[hz])) ha.2⟩;rcases(Agm hx (fun z hz=>hl z (by simp[hz])) y).1 hy with rfl|hy
    .omega
    .exact ha.1 y hy
def ordL(l:List Int):List Int:=l.foldl (fun acc x=>insS x acc) []
theorem Azz{l:List Int}:∀{acc:List Int},AllU l->AllU acc->Asc acc->AllU (l.foldl (fun acc x=>insS x acc) acc)/\Asc (l.foldl (fun acc x=>insS x acc) acc)/\∀y,y∈l.foldl (fun acc x=>insS x acc) acc↔y∈acc∨y∈l:=by
 induction l with
 |nil=>intro acc _ h1 h2;exact⟨h1,h2,by simp⟩
 |cons a l ih=>
  intro acc h h1 h2;have ha:=h a (by simp);have h3:AllU (insS a acc):=fun y hy=>by
   rcases(Agm ha h1 y).1 hy with rfl|hy
   .exact ha
   .exact h1 y hy
  obtain⟨i1,i2,i3⟩:=ih (acc:=insS a acc) (fun y hy=>h y (by simp[hy])) h3 (Ajt ha h1 h2);refine⟨i1,i2,fun y=>?_⟩;rw[yA,i3,Agm ha h1,zB];constructor
  .rintro ((h|h)|h)<;>simp[h]
  .rintro (h|h|h)<;>simp[h]
theorem Bfy{l:List Int}(h:AllU l):Asc (ordL l):=(Azz h (fun _ h=>by cases h) zV).2.1
theorem Aqq{l:List Int}(h:AllU l)(y:Int):y∈ordL l↔y∈l:=by
 have:=(Azz h (acc:=[]) (fun _ h=>by cases h) zV).2.2 y;unfold ordL;simpa using this
theorem Bfx{l:List Int}(h:AllU l):AllU (ordL l):=fun y hy=>h y ((Aqq h y).1 hy)
theorem Bj8{l m:List Int}(h:AllU l)(hm:Asc m)(hx:∀y,y∈m↔y∈l):m=ordL l:=
 Ata keyS hm (Bfy h) fun y=>by rw[hx,Aqq h]
theorem Bfz{l:List Int}:(ordL l).length<=l.length:=by
 have:∀(l acc:List Int),(l.foldl (fun acc x=>insS x acc) acc).length<=acc.length+l.length:=by
  intro l
  induction l with
  |nil=>intro acc;simp
  |cons a l ih=>
   intro acc;have h1:∀m:List Int,(insS a m).length<=m.length+1:=by
    intro m
    induction m with
    |nil=>simp[insS]
    |cons b m ih2=>
     simp only[insS]
     split
     .simp
     .split
      .simp
      .simp only[zY];omega
   have:=ih (insS a acc);have:=h1 acc;rw[yA,zY];omega
 simpa[ordL]using this l []
def Aaw:List Int->List Int
 |[]=>[]
 |[a]=>[a]
 |a::b::r=>if a=b then Aaw (b::r)else a::Aaw (b::r)
theorem Ah4:∀{l:List Int}(y:Int),y∈Aaw l↔y∈l
 |[],y=>by simp[Aaw]
 |[a],y=>by simp[Aaw]
 |a::b::r,y=>by
  simp only[Aaw]
  split
  .rename_i h;subst h;rw[Ah4];simp
  .rw [zB,Ah4];simp
theorem Ajp:∀{l:List Int},AllU l->l.Pairwise (fun a b=>keyS a<=keyS b)->Asc (Aaw l)
 |[],_,_=>by simp[Aaw]
 |[a],_,_=>by simp[Aaw]
 |a::b::r,hu,h=>by
  have h1:=zA.1 h;simp only[Aaw]
  split
  .exact Ajp (fun z hz=>hu z (by simp[hz])) h1.2
  .rename_i hne;refine zA.2 ⟨fun y hy=>?_,Ajp (fun z hz=>hu z (by simp[hz])) h1.2⟩;have hy:=(Ah4 y).1 hy;have hab:keyS a<keyS b:=by
    have:=h1.1 b (by simp);rcases Nat.lt_or_eq_of_le this with h2|h2
    .exact h2
    .exact absurd (Aqn (hu a (by simp)) (hu b (by simp)) h2) hne
   rcases zB.1 hy with rfl|hy
   .exact hab
   .exact zF hab ((zA.1 h1.2).1 y hy)
theorem Bfn{x i j:Nat}(hx:x<2^32)(h0:x≠0)(hi:x.testBit i=true)(hl:∀j,j<i->x.testBit j=false):(x &&& (2^32-x)).testBit j=decide (i=j):=by
 have e:2^32-x=2^32-((x-1)+1):=by omega
 rw[zK,e,Nat.testBit_two_pow_sub_succ (by omega)];have hc:=Aue hi hl j;rw[zK]at hc;cases hj:x.testBit j with
 |false=>
  have:i≠j:=fun h=>by rw[h,hj]at hi;cases hi
  simp[this]
 |true=>
  have hj32:j<32:=by
   false_or_by_contra
   rename_i hge;rw[zO (zF hx (zE (by omega) (by omega)))]at hj;cases hj
  rw[hj]at hc;simp only[Bool.true_and]at hc⊢;rw[hc];by_cases hji:i=j
  .subst hji;simp[hj32]
  .have:j≠i:=fun h=>hji h.symm;simp[hji,this]
theorem Biz{x i:Nat}(hx:x<2^32)(h0:x≠0)(hi:x.testBit i=true)(hl:∀j,j<i->x.testBit j=false):x &&& (2^32-x)=2^i:=by
 refine zR fun j=>?_;rw[Bfn hx h0 hi hl,Nat.testBit_two_pow]
theorem Bfs{x:Nat}(h0:0<x)(hx:x<2^32):IntKind.wrap .u32 (-(x:Int))=((2^32-x:Nat):Int):=by
 simp only[IntKind.wrap,IntKind.bits,IntKind.signed];simp;omega
theorem Biy{x i:Nat}(hx:x<2^32)(hi:x.testBit i=true)(hl:∀j,j<i->x.testBit j=false):bAnd .u32 (x:Int) (IntKind.wrap .u32 (0-(x:Int)))=((2^i:Nat):Int):=by
 have h0:x≠0:=fun h=>by rw[h,zW]at hi;cases hi
 rw[Int.zero_sub,Bfs (by omega) hx,Agj (k:=.u32) (by simpa[top]using hx) (by simp only[top];omega),Biz hx h0 hi hl]
section
variable{α κ β:Type}[DecidableEq κ]{f:α->κ}{l:List α}{x:α}{k:κ}{i:Nat}
def Abh(f:α->κ)(l:List α):List κ:=fsts (l.map f)
def clB(f:α->κ)(l:List α)(k:κ):List α:=l.filter fun x=>decide (f x=k)
def blk(f:α->κ)(l:List α):List (List α):=(Abh f l).map (clB f l)
theorem Aj5:Abh f (l++[x])=if f x∈Abh f l then Abh f l else Abh f l++[f x]:=by
 unfold Abh;rw[yB];exact Ans
theorem Afm:k∈Abh f l↔∃x∈l,f x=k:=by
 unfold Abh;rw[Bfq,List.mem_map]
theorem Al4:(Abh f l).Nodup:=Bb3
theorem Aj4(h:(Abh f l)[i]?=some k):(Abh f (l++[x]))[i]?=some k:=by
 rw[Aj5]
 split
 .exact h
 .rw [List.getElem?_append_left (by have:=(zC.1 h).1;exact this)];exact h
theorem Awr:clB f (l++[x]) k=if f x=k then clB f l k++[x]else clB f l k:=by
 unfold clB;rw[List.filter_append];by_cases h:f x=k
 .rw [if_pos h,zZ,if_pos (decide_eq_true h)];rfl
 .rw [if_neg h,zZ,if_neg (by rw[decide_eq_true_iff];exact h),List.filter_nil,List.append_nil]
theorem Alo{y:α}:y∈clB f l k↔y∈l/\f y=k:=by
 unfold clB;rw[zI,decide_eq_true_iff]
theorem Bjy(h:k∈Abh f l):clB f l k≠[]:=by
 obtain⟨x,hx,hk⟩:=Afm.1 h;exact List.ne_nil_of_mem (Alo.2 ⟨hx,hk⟩)
theorem Bh6(h:k ∉ Abh f l):clB f l k=[]:=by
 unfold clB;rw[zP];intro y hy hk;exact h (Afm.2 ⟨y,hy,of_decide_eq_true hk⟩)
theorem Bh5:(clB f l k).length<=l.length:=zQ _ _
theorem Aux:(Abh f l).length<=l.length:=by
 have hs:∀y∈Abh f l,y∈l.map f:=fun y hy=>by obtain⟨x,hx,h⟩:=Afm.1 hy;exact List.mem_map.2 ⟨x,hx,h⟩
 have:=(Al4 (f:=f) (l:=l)).length_le_of_subset hs
 rwa [zL]at this
theorem Azq:(blk f l).length=(Abh f l).length:=by unfold blk;rw[zL]
def base(F:List α->β)(f:α->κ)(l:List α)(x:α):List β:=(Abh f (l++[x])).map fun k=>F (clB f l k)
theorem Bew{F:List α->β}(h:f x∈Abh f l):base F f l x=(blk f l).map F:=by
 unfold base blk;rw[Aj5,if_pos h,List.map_map];rfl
theorem Bev{F:List α->β}(h:f x ∉ Abh f l):base F f l x=(blk f l).map F++[F []]:=by
 unfold base blk;rw[Aj5,if_neg h,yB,List.map_map,List.map_cons,Bh6 h];rfl
theorem Beu{F:List α->β}(h:(Abh f (l++[x]))[i]?=some k):(base F f l x)[i]?=some (F (clB f l k)):=by
 unfold base;rw[zD,h];rfl
theorem Axh{j:Nat}(h:(Abh f l)[i]?=some k)(h2:(Abh f l)[j]?=some k):i=j:=by
 obtain⟨hi,e1⟩:=zC.1 h;obtain⟨hj,e2⟩:=zC.1 h2;have hn:=Al4 (f:=f) (l:=l);rw[List.nodup_iff_pairwise_ne,List.pairwise_iff_getElem]at hn;rcases zH i j with hij|hij|hij
 .exact absurd (e1.trans e2.symm) (hn i j hi hj hij)
 .exact hij
 .exact absurd (e2.trans e1.symm) (hn j i hj hi hij)
theorem Bex{F0 F:List α->β}(h:(Abh f (l++[x]))[i]?=some (f x))(hF:∀k∈Abh f (l++[x]),k≠f x->F0 (clB f l k)=F (clB f l k)):
  (base F0 f l x).set i (F (clB f l (f x)++[x]))=(blk f (l++[x])).map F:=by
 apply List.ext_getElem?;intro n;rw[List.getElem?_set];have er:((blk f (l++[x])).map F)[n]?=((Abh f (l++[x]))[n]?).map fun k=>F (clB f (l++[x]) k):=by
  unfold blk;rw[zD,zD,Option.map_map];rfl
 rw[er];by_cases hn:i=n
 .subst hn;have hlt:i<(base F0 f l x).length:=by unfold base;rw[zL];exact(zC.1 h).1
  rw[if_pos rfl,if_pos hlt,h,zM,Awr,if_pos rfl]
 .rw [if_neg hn];have eb:(base F0 f l x)[n]?=((Abh f (l++[x]))[n]?).map fun k=>F0 (clB f l k):=by unfold base;rw[zD]
  rw[eb];cases hk:(Abh f (l++[x]))[n]? with
  |none=>rfl
  |some k=>
   have hne:k≠f x:=fun e=>hn (Axh h (by rw[hk,e]));rw[zM,zM,hF k (List.mem_of_getElem? hk) hne,Awr,if_neg (fun e=>hne e.symm)]
end
end Go.Own
