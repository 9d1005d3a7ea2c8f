/- No conditions. -/
import Derived.Laws.Strings
import Derived.Test.YtbmbbljdpnpmeaaGreatDoorTopMixedLaw6
import Derived.Test.YtbmbbljdpnpmeaaGreatDoorBase2
set_option linter.all false
namespace Go.Own
def cmpI (a b:Int):Int:=if a<b then -1 else if b<a then 1 else 0
theorem down {n : Nat} {P : Nat -> Prop} (h0 : P n) (hs : ∀ k, k < n -> P (k + 1) -> P k) : ∀ k, k <= n -> P k := by
  have : ∀ m k, k + m = n -> P k := by
    intro m
    induction m with
    | zero => intro k hk; have : k = n := by omega
              subst this; exact h0
    | succ m ih => intro k hk; exact hs k (by omega) (ih (k + 1) (by omega))
  intro k hk;exact this (n - k) k (by omega)
def Am7 {α:Type} (p:α->Bool):List α->Nat->Int
 | [],_=>-1
 | a::r,k=>if p a=true then (k:Int) else Am7 p r (k+1)
def ixI {α:Type} (p:α->Bool) (l:List α):Int:=Am7 p l 0
theorem At7 {α:Type} {p:α->Bool}:∀ {l:List α} {k:Nat},decide (0<=Am7 p l k)=l.any p
 | [],_=>rfl
 | a::r,k=>by
  simp only [Am7,List.any_cons]
  split
  ·rename_i h;simp [h]
  ·rename_i h;rw [At7,Bool.eq_false_iff.2 h];simp
theorem Auq {α:Type} {p:α->Bool} {l:List α}:decide (0<=ixI p l)=l.any p:=At7
theorem An6 {α : Type} {l : List α} {p : α -> Bool} {L : Int -> Prop} {φ : Int -> Prop} (stop : φ (-1) -> L (l.length : Int))
    (step : ∀ (k : Nat) a, l[k]? = some a -> k < l.length -> (if p a = true then φ (k : Int) else L ((k + 1 : Nat) : Int)) -> L k) (h : φ (ixI p l)) : L 0 := by
  have : ∀ (r : List α) (k : Nat), l.drop k = r -> k <= l.length -> φ (Am7 p r k) -> L k := by
    intro r
    induction r with
    | nil => intro k hd hk h; have : k = l.length := by have := Aay hd; omega
             subst this; exact stop h
    | cons a r ih =>
      intro k hd hk h;have hlt := Aaz hd;refine step k a (Aaq hd) hlt ?_;simp only [Am7] at h
      split
      · rename_i hp; rw [if_pos hp] at h; exact h
      · rename_i hp; rw [if_neg hp] at h; exact ih (k + 1) (Aa8 hd) hlt h
  exact this l 0 rfl (Nat.zero_le _) h
theorem Axv {α : Type} {l : List α} {p : α -> Bool} {L : Int -> Prop} {φ : Bool -> Prop} (stop : φ true -> L (l.length : Int))
    (step : ∀ (k : Nat) a, l[k]? = some a -> k < l.length -> (if p a = true then L ((k + 1 : Nat) : Int) else φ false) -> L k) (h : φ (l.all p)) : L 0 := by
  have : ∀ (r : List α) (k : Nat), l.drop k = r -> k <= l.length -> φ (r.all p) -> L k := by
    intro r
    induction r with
    | nil => intro k hd hk h; have : k = l.length := by have := Aay hd; omega
             subst this; exact stop h
    | cons a r ih =>
      intro k hd hk h;have hlt := Aaz hd;refine step k a (Aaq hd) hlt ?_;simp only [List.all_cons] at h
      split
      · rename_i hp; rw [hp, Bool.true_and] at h; exact ih (k + 1) (Aa8 hd) hlt h
      · rename_i hp
        have hp : p a = false := by simpa using hp
        rw [hp, Bool.false_and] at h; exact h
  exact this l 0 rfl (Nat.zero_le _) h
theorem Ad9 {α:Type} {l:List α} {k:Nat} {a:α} (h:l[k]? = some a):lget l (k:Int)=some a:=by rw [Abo];exact h
theorem Apz {s:ByteArray}:s.toList=s.data.toList:=ByteArray.toList_eq s
theorem Aoh {a b:ByteArray}:a.toList=b.toList↔a=b:=by
 constructor
 ·intro h;rw [Apz,Apz] at h;obtain ⟨⟨a⟩⟩:=a;obtain ⟨⟨b⟩⟩:=b;simp only at h;rw [h]
 ·rintro rfl;rfl
theorem Aid {s:ByteArray}:Ags s=(s.toList.length:Int):=by
 rw [Apz];rfl
theorem bget {s:ByteArray} {i:Nat}:s[i]? = s.toList[i]?:=by
 rw [Apz];by_cases h:i<s.size
 ·rw [getElem?_pos s i h,List.getElem?_eq_getElem (by exact h)];rfl
 ·rw [getElem?_neg s i h,List.getElem?_eq_none (by simpa using h)]
theorem Aub {s:ByteArray} {k:Nat} {b:UInt8} (h:s.toList[k]? = some b):(0:Int)<=(k:Int)/\s[((k:Nat):Int).toNat]? = some b:=⟨by omega,by rw [Int.toNat_natCast,bget];exact h⟩
theorem Ax9 {l:List UInt8}:(⟨l.toArray⟩:ByteArray).toList=l:=by rw [Apz]
theorem Auc {l:List UInt8}:(bstr l).toList=l:=Ax9
theorem Bn6 {b:UInt8}:0<=u8i b/\u8i b<256:=by
 unfold u8i;have:=b.toNat_lt;omega
theorem Bbs {a b:UInt8}:u8i a=u8i b↔a=b:=by
 unfold u8i;constructor
 ·intro h;exact UInt8.toNat_inj.1 (by omega)
 ·rintro rfl;rfl
theorem Bdm {l m:List Nat} (hl:l.Pairwise (·<·)) (hm:m.Pairwise (·<·)) (h:∀ x,x∈l↔x∈m):l=m:=by
 induction l generalizing m with
 | nil=>
  cases m with
  | nil=>rfl
  | cons b m=>have:=(h b).2 (by simp);simp at this
 | cons a l ih=>
  cases m with
  | nil=>have:=(h a).1 (by simp);simp at this
  | cons b m=>
   have ha:=List.pairwise_cons.1 hl;have hb:=List.pairwise_cons.1 hm;have e:a=b:=by
    rcases List.mem_cons.1 ((h a).1 (by simp)) with h1 | h1
    ·exact h1
    ·rcases List.mem_cons.1 ((h b).2 (by simp)) with h2 | h2
     ·exact h2.symm
     ·have:=hb.1 a h1;have:=ha.1 b h2;omega
   subst e;rw [ih ha.2 hb.2];intro x;constructor
   ·intro hx;rcases List.mem_cons.1 ((h x).1 (by simp [hx])) with h1 | h1
    ·subst h1;have:=ha.1 x hx;omega
    ·exact h1
   ·intro hx;rcases List.mem_cons.1 ((h x).2 (by simp [hx])) with h1 | h1
    ·subst h1;have:=hb.1 x hx;omega
    ·exact h1
def Aah (n:Nat):List Nat:=(List.range 32).filter fun i=>n.testBit i
theorem Ab1 {n i:Nat} (h:n<2^32):i∈Aah n↔n.testBit i=true:=by
 unfold Aah;simp only [List.mem_filter,List.mem_range];constructor
 ·exact fun h=>h.2
 ·intro hi;refine ⟨?_,hi⟩
  false_or_by_contra
  rename_i hn;rw [Nat.testBit_lt_two_pow (Nat.lt_of_lt_of_le h (Nat.pow_le_pow_right (by decide) (by omega)))] at hi;cases hi
theorem Agr {n:Nat}:(Aah n).Pairwise (·<·):=List.pairwise_lt_range.filter _
theorem Aew {n:Nat}:(Aah n).length<=32:=Nat.le_trans (List.length_filter_le _ _) (by simp)
theorem Baa:Aah 0=[]:=by
 unfold Aah;rw [List.filter_eq_nil_iff];simp
theorem Azd {x:Nat}:∀ {n k:Nat},(∀ j,j<k->x.testBit j=false)->(∃ j,j<n+k/\x.testBit j=true)->x.testBit (Acd x n k)=true/\∀ j,j<Acd x n k->x.testBit j=false
 | 0,k,h,⟨j,h1,h2⟩=>by rw [h j (by omega)] at h2;cases h2
 | n+1,k,h,⟨j,h1,h2⟩=>by
  simp only [Acd]
  split
  ·rename_i hk;exact ⟨hk,h⟩
  ·rename_i hk;refine Azd (fun i hi=>?_) ⟨j,by omega,h2⟩;by_cases hik:i=k
   ·subst hik;simpa using hk
   ·exact h i (by omega)
theorem Blw {n:Nat} (h0:n≠0) (h:n<2^32):∃ j,j<32/\n.testBit j=true:=by
 obtain ⟨j,hj⟩:=Nat.exists_testBit_of_ne_zero h0;exact ⟨j,by have:=(Ab1 h).2 hj;unfold Aah at this;simpa using (List.mem_filter.1 this).1,hj⟩
theorem Bee {n i:Nat} (hi:n.testBit i=true) (hl:∀ j,j<i->n.testBit j=false) (j:Nat):(n &&& (n-1)).testBit j=(n.testBit j&&decide (j≠i)):=by
 have e:n=2^i*(2*(n / 2^(i+1))+1):=by
  have h1:n % 2^i=0:=by
   apply Nat.eq_of_testBit_eq;intro j;rw [Nat.testBit_mod_two_pow,Nat.zero_testBit];by_cases hj:j<i
   ·rw [hl j hj];simp
   ·simp [hj]
  have h2:n / 2^i % 2=1:=by rw [Nat.testBit_eq_decide_div_mod_eq] at hi;simpa using hi
  have h3:=Nat.div_add_mod n (2^i);have h4:n / 2^(i+1)=n / 2^i / 2:=by rw [Nat.pow_succ,Nat.div_div_eq_div_mul]
  rw [h4];have h5:2*(n / 2^i / 2)+1=n / 2^i:=by omega
  rw [h5];omega
 generalize hm:n / 2^(i+1)=m at e;have hp:0<2^i:=Nat.pos_of_ne_zero (by simp);have e1:n-1=2^i*(2*m)+(2^i-1):=by rw [e,Nat.mul_add];omega
 have e2:n=2^i*(2*m+1)+0:=by rw [e];rfl
 rw [Nat.testBit_and,e1,Nat.testBit_two_pow_mul_add _ (by omega)];by_cases h1:j<i
 ·rw [hl j h1];rfl
 ·rw [if_neg h1];by_cases h2:j=i
  ·subst h2;simp [Nat.testBit_zero]
  ·have h3:(2*m).testBit (j-i)=n.testBit j:=by
    rw [e2,Nat.testBit_two_pow_mul_add _ (by omega),if_neg h1];obtain ⟨q,hq⟩:∃ q,j-i=q+1:=⟨j-i-1,by omega⟩
    rw [hq,Nat.testBit_add_one,Nat.testBit_add_one];congr 1;omega
   rw [h3];simp [h2]
theorem Ba9 {n:Nat} (h0:n≠0) (h:n<2^32):Aah n=Acd n 32 0::Aah (n &&& (n-1)):=by
 obtain ⟨h1,h2⟩:=Azd (x:=n) (n:=32) (k:=0) (fun j hj=>by omega) (by simpa using Blw h0 h);have hlt:(n &&& (n-1))<2^32:=Nat.lt_of_le_of_lt Nat.and_le_left h;have hb:=Bee h1 h2;refine Bdm Agr ?_ fun x=>?_
 ·refine List.pairwise_cons.2 ⟨fun y hy=>?_,Agr⟩;rw [Ab1 hlt,hb] at hy;simp only [Bool.and_eq_true,decide_eq_true_eq] at hy;rcases Nat.lt_trichotomy y (Acd n 32 0) with h3 | h3 | h3
  ·rw [h2 y h3] at hy;cases hy.1
  ·exact absurd h3 hy.2
  ·exact h3
 ·rw [List.mem_cons,Ab1 h,Ab1 hlt,hb];simp only [Bool.and_eq_true,decide_eq_true_eq];by_cases hx:x=Acd n 32 0
  ·simp [hx,h1]
  ·simp [hx]
theorem Bgs {n:Nat} (h0:n≠0):(n &&& (n-1))<n:=by
 have:=Nat.and_le_right (n:=n) (m:=n-1);omega
def Al8 (k:Nat):Nat:=2^min k 32-1
def sN (x:Int):Nat:=x.toNat
def U32 (x:Int):Prop:=0<=x/\x<4294967296
theorem U32.eq {x:Int} (h:U32 x):x=(sN x:Int):=by have:=h.1;unfold sN;omega
theorem U32.lt {x:Int} (h:U32 x):sN x<2^32:=by have:=h.1;have:=h.2;unfold sN;omega
theorem U32.top {x:Int} (h:U32 x):sN x<2^top .u32:=by simpa [Go.Own.top] using h.lt
theorem U32.of {n:Nat} (h:n<2^32):U32 (n:Int):=⟨by omega,by omega⟩
theorem Aej {n:Nat}:sN (n:Int)=n:=Int.toNat_natCast n
theorem U32.ext {x y:Int} (hx:U32 x) (hy:U32 y) (h:sN x=sN y):x=y:=by rw [hx.eq,hy.eq,h]
theorem Bip {α:Type} (f:α->Nat) {l m:List α} (hl:l.Pairwise (fun a b=>f a<f b)) (hm:m.Pairwise (fun a b=>f a<f b)) (h:∀ x,x∈l↔x∈m):l=m:=by
 induction l generalizing m with
 | nil=>
  cases m with
  | nil=>rfl
  | cons b m=>have:=(h b).2 (by simp);simp at this
 | cons a l ih=>
  cases m with
  | nil=>have:=(h a).1 (by simp);simp at this
  | cons b m=>
   have ha:=List.pairwise_cons.1 hl;have hb:=List.pairwise_cons.1 hm;have e:a=b:=by
    rcases List.mem_cons.1 ((h a).1 (by simp)) with h1 | h1
    ·exact h1
    ·rcases List.mem_cons.1 ((h b).2 (by simp)) with h2 | h2
     ·exact h2.symm
     ·have:=hb.1 a h1;have:=ha.1 b h2;omega
   subst e;rw [ih ha.2 hb.2];intro x;constructor
   ·intro hx;rcases List.mem_cons.1 ((h x).1 (by simp [hx])) with h1 | h1
    ·subst h1;have:=ha.1 x hx;omega
    ·exact h1
   ·intro hx;rcases List.mem_cons.1 ((h x).2 (by simp [hx])) with h1 | h1
    ·subst h1;have:=hb.1 x hx;omega
    ·exact h1
def szN (n:Nat):Nat:=(Aah n).length
def keyS (x:Int):Nat:=szN (sN x)*4294967296+sN x
theorem Az4 {x y:Int} (hx:U32 x) (hy:U32 y) (h:keyS x=keyS y):x=y:=by
 have h1:=hx.lt;have h2:=hy.lt;unfold keyS at h;exact hx.ext hy (by omega)
theorem Bkq {x y:Int} (hx:U32 x) (hy:U32 y):keyS x<keyS y↔szN (sN x)<szN (sN y)∨szN (sN x)=szN (sN y)/\sN x<sN y:=by
 have h1:=hx.lt;have h2:=hy.lt;unfold keyS;constructor
 ·intro h;rcases Nat.lt_trichotomy (szN (sN x)) (szN (sN y)) with h3 | h3 | h3
  ·exact .inl h3
  ·rw [h3] at h;exact .inr ⟨h3,by omega⟩
  ·omega
 ·rintro (h | ⟨h,h3⟩)
  ·omega
  ·omega
abbrev AllU (l:List Int):Prop:=∀ x∈l,U32 x
abbrev Asc (l:List Int):Prop:=l.Pairwise (fun a b=>keyS a<keyS b)
def insS (x:Int):List Int->List Int
 | []=>[x]
 | a::r=>if keyS x<keyS a then x::a::r else if keyS x=keyS a then a::r else a::insS x r
theorem An7 {x:Int} (hx:U32 x):∀ {l:List Int},AllU l->∀ y,y∈insS x l↔y=x∨y∈l
 | [],_,y=>by simp [insS]
 | a::r,hl,y=>by
  simp only [insS];have ha:=hl a (by simp)
  split
  ·simp
  ·split
   ·rename_i h;have e:=Az4 hx ha h;subst e;simp
   ·rw [List.mem_cons,An7 hx (fun z hz=>hl z (by simp [hz])),List.mem_cons];constructor
    ·rintro (h | h | h)<;>simp [h]
    ·rintro (h | h | h)<;>simp [h]
theorem Az0 {x:Int} (hx:U32 x):∀ {l:List Int},AllU l->Asc l->Asc (insS x l)
 | [],_,_=>by simp [insS]
 | a::r,hl,h=>by
  simp only [insS];have ha:=List.pairwise_cons.1 h
  split
  ·rename_i h1;refine List.pairwise_cons.2 ⟨fun y hy=>?_,h⟩;rcases List.mem_cons.1 hy with rfl | hy
   ·exact h1
   ·exact Nat.lt_trans h1 (ha.1 y hy)
  ·split
   ·exact h
   ·rename_i h1 h2;refine List.pairwise_cons.2 ⟨fun y hy=>?_,Az0 hx (fun z hz=>hl z (by simp [hz])) ha.2⟩;rcases (An7 hx (fun z hz=>hl z (by simp [hz])) y).1 hy with rfl | hy
    ·omega
    ·exact ha.1 y hy
def ordL (l:List Int):List Int:=l.foldl (fun acc x=>insS x acc) []
theorem Bbd {l:List Int}:∀ {acc:List Int},AllU l->AllU acc->Asc acc->AllU (l.foldl (fun acc x=>insS x acc) acc)/\Asc (l.foldl (fun acc x=>insS x acc) acc)/\∀ y,y∈l.foldl (fun acc x=>insS x acc) acc↔y∈acc∨y∈l:=by
 induction l with
 | nil=>intro acc _ h1 h2;exact ⟨h1,h2,by simp⟩
 | cons a l ih=>
  intro acc h h1 h2;have ha:=h a (by simp);have h3:AllU (insS a acc):=fun y hy=>by
   rcases (An7 ha h1 y).1 hy with rfl | hy
   ·exact ha
   ·exact h1 y hy
  obtain ⟨i1,i2,i3⟩:=ih (acc:=insS a acc) (fun y hy=>h y (by simp [hy])) h3 (Az0 ha h1 h2);refine ⟨i1,i2,fun y=>?_⟩;rw [List.foldl_cons,i3,An7 ha h1,List.mem_cons];constructor
  ·rintro ((h | h) | h)<;>simp [h]
  ·rintro (h | h | h)<;>simp [h]
theorem Bhv {l:List Int} (h:AllU l):Asc (ordL l):=(Bbd h (fun _ h=>by cases h) List.Pairwise.nil).2.1
theorem Azl {l:List Int} (h:AllU l) (y:Int):y∈ordL l↔y∈l:=by
 have:=(Bbd h (acc:=[]) (fun _ h=>by cases h) List.Pairwise.nil).2.2 y;unfold ordL;simpa using this
theorem Bl1 {l m:List Int} (h:AllU l) (hm:Asc m) (hx:∀ y,y∈m↔y∈l):m=ordL l:=
 Bip keyS hm (Bhv h) fun y=>by rw [hx,Azl h]
theorem Bhw {l:List Int}:(ordL l).length<=l.length:=by
 have:∀ (l acc:List Int),(l.foldl (fun acc x=>insS x acc) acc).length<=acc.length+l.length:=by
  intro l
  induction l with
  | nil=>intro acc;simp
  | cons a l ih=>
   intro acc;have h1:∀ m:List Int,(insS a m).length<=m.length+1:=by
    intro m
    induction m with
    | nil=>simp [insS]
    | cons b m ih2=>
     simp only [insS]
     split
     ·simp
     ·split
      ·simp
      ·simp only [List.length_cons];omega
   have:=ih (insS a acc);have:=h1 acc;rw [List.foldl_cons,List.length_cons];omega
 simpa [ordL] using this l []
def Aaw:List Int->List Int
 | []=>[]
 | [a]=>[a]
 | a::b::r=>if a=b then Aaw (b::r) else a::Aaw (b::r)
theorem Ahh:∀ {l:List Int} (y:Int),y∈Aaw l↔y∈l
 | [],y=>by simp [Aaw]
 | [a],y=>by simp [Aaw]
 | a::b::r,y=>by
  simp only [Aaw]
  split
  ·rename_i h;subst h;rw [Ahh];simp
  ·rw [List.mem_cons,Ahh];simp
theorem Ak4:∀ {l:List Int},AllU l->l.Pairwise (fun a b=>keyS a<=keyS b)->Asc (Aaw l)
 | [],_,_=>by simp [Aaw]
 | [a],_,_=>by simp [Aaw]
 | a::b::r,hu,h=>by
  have h1:=List.pairwise_cons.1 h;simp only [Aaw]
  split
  ·exact Ak4 (fun z hz=>hu z (by simp [hz])) h1.2
  ·rename_i hne;refine List.pairwise_cons.2 ⟨fun y hy=>?_,Ak4 (fun z hz=>hu z (by simp [hz])) h1.2⟩;have hy:=(Ahh y).1 hy;have hab:keyS a<keyS b:=by
    have:=h1.1 b (by simp);rcases Nat.lt_or_eq_of_le this with h2 | h2
    ·exact h2
    ·exact absurd (Az4 (hu a (by simp)) (hu b (by simp)) h2) hne
   rcases List.mem_cons.1 hy with rfl | hy
   ·exact hab
   ·exact Nat.lt_of_lt_of_le hab ((List.pairwise_cons.1 h1.2).1 y hy)
def fdMv (d:Nat×Nat):List (Nat×Nat):=(Aah d.2).map fun a=>(d.1,2^a)
def Ais (fds mvds:List (Nat×Nat)):List (Nat×Nat):=mvds++fds.flatMap fdMv
def mixR (m:Nat×Nat) (r s:Nat):Nat:=(r &&& (m.1 ||| m.2)) ||| Aa4 s (m.1 ||| m.2)
def Abh (l r s:Nat):Prop:=∀ i,l.testBit i=true->r.testBit i=s.testBit i
theorem Bc0 {l r s:Nat}:(r ^^^ s) &&& l=0↔Abh l r s:=by
 rw [Abx];constructor
 ·intro h i hl;cases hq:(r ^^^ s).testBit i with
  | true=>rw [h i hq] at hl;cases hl
  | false=>rw [Nat.testBit_xor] at hq;revert hq;cases r.testBit i<;>cases s.testBit i<;>simp
 ·intro h i hx;cases hl:l.testBit i with
  | false=>rfl
  | true=>rw [Nat.testBit_xor,h i hl] at hx;simp at hx
theorem Afu {m:Nat×Nat} {r s i:Nat}:(mixR m r s).testBit i=if (m.1 ||| m.2).testBit i=true then r.testBit i else s.testBit i:=by
 unfold mixR;rw [Nat.testBit_or,Nat.testBit_and,Aag];cases (m.1 ||| m.2).testBit i<;>simp
theorem Acn {i j:Nat}:(2^i).testBit j=decide (i=j):=Nat.testBit_two_pow
structure CI (fds:List (Nat×Nat)) (bs:List Nat) (rest live:Nat) (T:Nat->Prop):Prop where
 zero:T 0
 top:T live
 sub:∀ r,T r->∀ i,r.testBit i=true->live.testBit i=true
 lsub:∀ i,live.testBit i=true->rest.testBit i=true
 blk:∀ r,T r->∀ b∈bs,(∀ i,b.testBit i=true->live.testBit i=true->r.testBit i=false)∨(∀ i,b.testBit i=true->live.testBit i=true->r.testBit i=true)
 dead:∀ i,rest.testBit i=true->live.testBit i=false->2^i∈bs/\∃ d∈fds,d.2.testBit i=true/\d.1.testBit i=false
theorem CI.whole {fds:List (Nat×Nat)} {bs:List Nat} {rest live:Nat} {T:Nat->Prop} (h:CI fds bs rest live T) (hp:BPart rest bs) {b:Nat} (hb:b∈bs):(∀ i,b.testBit i=true->live.testBit i=true)∨(∃ j,b=2^j/\live.testBit j=false):=by
 by_cases hq:∃ i,b.testBit i=true/\live.testBit i=false
 ·obtain ⟨i,h1,h2⟩:=hq;obtain ⟨h3,_⟩:=h.dead i ((hp.all i).2 ⟨b,hb,h1⟩) h2;exact .inr ⟨i,Bek hp hb h3 h1 (by rw [Acn];simp),h2⟩
 ·refine .inl fun i hi=>?_;cases hl:live.testBit i with
  | true=>rfl
  | false=>exact absurd ⟨i,hi,hl⟩ hq
theorem CI.same {fds:List (Nat×Nat)} {bs:List Nat} {rest live:Nat} {T:Nat->Prop} (h:CI fds bs rest live T) {b:Nat} (hb:b∈bs) {r s:Nat} (hr:T r) (hs:T s) {i:Nat} (hi:b.testBit i=true) (hl:live.testBit i=true) (he:r.testBit i=s.testBit i):∀ j,b.testBit j=true->r.testBit j=s.testBit j:=by
 intro j hj;cases hlj:live.testBit j with
 | false=>
  have h1:r.testBit j=false:=by
   cases hq:r.testBit j with
   | false=>rfl
   | true=>rw [h.sub r hr j hq] at hlj;cases hlj
  have h2:s.testBit j=false:=by
   cases hq:s.testBit j with
   | false=>rfl
   | true=>rw [h.sub s hs j hq] at hlj;cases hlj
  rw [h1,h2]
 | true=>
  rcases h.blk r hr b hb with h1 | h1<;>rcases h.blk s hs b hb with h2 | h2
  ·rw [h1 j hj hlj,h2 j hj hlj]
  ·rw [h1 i hi hl,h2 i hi hl] at he;cases he
  ·rw [h1 i hi hl,h2 i hi hl] at he;cases he
  ·rw [h1 j hj hlj,h2 j hj hlj]
theorem CI.mv {fds:List (Nat×Nat)} {bs:List Nat} {rest live:Nat} {T:Nat->Prop} (h:CI fds bs rest live T) (hp:BPart rest bs) {m:Nat×Nat} (hm:∀ b∈bs,Abc m b=false) {r s:Nat} (hr:T r) (hs:T s) (ha:Abh m.1 r s):CI fds bs rest live (fun u=>T u∨u=mixR m r s) where
 zero:=.inl h.zero
 top:=.inl h.top
 lsub:=h.lsub
 dead:=h.dead
 sub:=by
  rintro u (hu | rfl) i hi
  ·exact h.sub u hu i hi
  ·rw [Afu] at hi
   split at hi
   ·exact h.sub r hr i hi
   ·exact h.sub s hs i hi
 blk:=by
  rintro u (hu | rfl) b hb
  ·exact h.blk u hu b hb
  ·rcases h.whole hp hb with hw | ⟨j,rfl,hj⟩
   ·have hn:=hm b hb;have hn:¬ (b &&& m.1=0/\b &&& m.2≠0/\Aa4 b m.2≠0):=fun hq=>by rw [Agc.2 hq] at hn;cases hn
    by_cases h1:b &&& m.1=0
    ·by_cases h2:b &&& m.2=0
     ·have:∀ i,b.testBit i=true->(mixR m r s).testBit i=s.testBit i:=fun i hi=>by
       rw [Afu,Nat.testBit_or,Abx.1 h1 i hi,Abx.1 h2 i hi];rfl
      rcases h.blk s hs b hb with hq | hq
      ·exact .inl fun i h1 h2=>by rw [this i h1];exact hq i h1 h2
      ·exact .inr fun i h1 h2=>by rw [this i h1];exact hq i h1 h2
     ·have h3:Aa4 b m.2=0:=Classical.byContradiction fun hq=>hn ⟨h1,h2,hq⟩;have:∀ i,b.testBit i=true->(mixR m r s).testBit i=r.testBit i:=fun i hi=>by
       rw [Afu,Nat.testBit_or,Ahw.1 h3 i hi,Bool.or_true,if_pos rfl]
      rcases h.blk r hr b hb with hq | hq
      ·exact .inl fun i h1 h2=>by rw [this i h1];exact hq i h1 h2
      ·exact .inr fun i h1 h2=>by rw [this i h1];exact hq i h1 h2
    ·obtain ⟨i,hi,hl⟩:=Asg.1 h1;have hsame:=h.same hb hr hs hi (hw i hi) (ha i hl);have:∀ i,b.testBit i=true->(mixR m r s).testBit i=r.testBit i:=fun i hi=>by
      rw [Afu,← hsame i hi];simp
     rcases h.blk r hr b hb with hq | hq
     ·exact .inl fun i h1 h2=>by rw [this i h1];exact hq i h1 h2
     ·exact .inr fun i h1 h2=>by rw [this i h1];exact hq i h1 h2
   ·refine .inl fun i h1 h2=>?_;rw [Acn,decide_eq_true_eq] at h1;subst h1;rw [hj] at h2;cases h2
theorem CI.fd {fds mvds:List (Nat×Nat)} {bs:List Nat} {rest live:Nat} {T:Nat->Prop} (h:CI fds bs rest live T) (hp:BPart rest bs) (hf:BFin (Ais fds mvds) bs) {d:Nat×Nat} (hd:d∈fds) (hd32:d.2<2^32) {D:Nat} (hD:∀ i,D.testBit i=true->d.2.testBit i=true/\∃ r s,T r/\T s/\Abh d.1 r s/\r.testBit i≠s.testBit i):CI fds bs rest (Aa4 live D) (fun u=>∃ r,T r/\u=Aa4 r D):=by
 have key:∀ i,D.testBit i=true->2^i∈bs/\d.2.testBit i=true/\d.1.testBit i=false:=by
  intro i hi;obtain ⟨h1,r,s,hr,hs,ha,hne⟩:=hD i hi;have hl:live.testBit i=true:=by
   cases hq:r.testBit i with
   | true=>exact h.sub r hr i hq
   | false=>
    cases hq2:s.testBit i with
    | true=>exact h.sub s hs i hq2
    | false=>rw [hq,hq2] at hne;exact absurd rfl hne
  have hd1:d.1.testBit i=false:=by
   cases hq:d.1.testBit i with
   | false=>rfl
   | true=>exact absurd (ha i hq) hne
  obtain ⟨b,hb,hbi⟩:=(hp.all i).1 (h.lsub i hl);have h0:b &&& d.1=0:=by
   rw [Abx];intro j hj;cases hq:d.1.testBit j with
   | false=>rfl
   | true=>
    have hlj:live.testBit j=true:=by
     rcases h.whole hp hb with hw | ⟨k,rfl,hk⟩
     ·exact hw j hj
     ·rw [Acn,decide_eq_true_eq] at hbi;subst hbi;rw [hl] at hk;cases hk
    exact absurd (h.same hb hr hs hj hlj (ha j hq) i hbi) hne
  have hmem:(d.1,2^i)∈Ais fds mvds:=List.mem_append_right _ (List.mem_flatMap.2 ⟨d,hd,List.mem_map.2 ⟨i,(Ab1 hd32).2 h1,rfl⟩⟩);have hs0:=hf _ hmem b hb;have hnz:¬ (Aa4 b (2^i)≠0):=fun hq=>by
   have:=Agc (m:=(d.1,2^i)) (b:=b) |>.2 ⟨h0,Asg.2 ⟨i,hbi,by rw [Acn];simp⟩,hq⟩
   rw [this] at hs0;cases hs0
  have hb2:b=2^i:=by
   apply Nat.eq_of_testBit_eq;intro j;cases hj:(2^i).testBit j with
   | true=>rw [Acn,decide_eq_true_eq] at hj;rw [← hj];exact hbi
   | false=>
    cases hbj:b.testBit j with
    | false=>rfl
    | true=>exact absurd (Bhp.2 ⟨j,hbj,hj⟩) hnz
  exact ⟨hb2 ▸ hb,h1,hd1⟩
 constructor
 ·exact ⟨0,h.zero,Nat.eq_of_testBit_eq fun i=>by rw [Aag];simp⟩
 ·exact ⟨live,h.top,rfl⟩
 ·rintro u ⟨r,hr,rfl⟩ i hi;rw [Aag,Bool.and_eq_true] at hi ⊢;exact ⟨h.sub r hr i hi.1,hi.2⟩
 ·intro i hi;rw [Aag,Bool.and_eq_true] at hi;exact h.lsub i hi.1
 ·rintro u ⟨r,hr,rfl⟩ b hb;rcases h.blk r hr b hb with hq | hq
  ·refine .inl fun i h1 h2=>?_;rw [Aag,Bool.and_eq_true] at h2;rw [Aag,hq i h1 h2.1];rfl
  ·refine .inr fun i h1 h2=>?_;rw [Aag,Bool.and_eq_true] at h2;rw [Aag,hq i h1 h2.1,h2.2];rfl
 ·intro i h1 h2;rw [Aag] at h2;cases hl:live.testBit i with
  | false=>exact h.dead i h1 hl
  | true=>
   rw [hl,Bool.true_and,Bool.not_eq_false'] at h2;obtain ⟨a,b,c⟩:=key i h2;exact ⟨a,d,hd,b,c⟩
structure Closed2 (fds mvds:List (Nat×Nat)) (T:Nat->Prop):Prop where
 fd:∀ d∈fds,∀ r s,T r->T s->Abh d.1 r s->Abh d.2 r s
 mv:∀ m∈mvds,∀ r s,T r->T s->Abh m.1 r s->T (mixR m r s)
def Akp (rest:Nat):List Nat:=if rest=0 then [] else [rest]
def finB (fds mvds:List (Nat×Nat)) (rest:Nat):List Nat:=Afb (Ais fds mvds) 40 (Akp rest)
theorem Ajy {rest:Nat}:BPart rest (Akp rest):=by
 unfold Akp
 split
 ·rename_i h;subst h;exact ⟨by simp,List.Pairwise.nil,fun i=>by simp⟩
 ·rename_i h;exact ⟨by simpa using h,by simp,fun i=>by simp⟩
theorem Arm {fds mvds:List (Nat×Nat)} {rest:Nat} (hr:rest<2^32):BPart rest (finB fds mvds rest)/\BFin (Ais fds mvds) (finB fds mvds rest):=Apg hr Ajy (by omega)
def eqR (r s i:Nat):Prop:=r.testBit i=s.testBit i
theorem Blu:EqOK eqR:=⟨fun _ _=>rfl,fun h=>Eq.symm h,fun h k=>Eq.trans h k⟩
theorem Bia {fds mvds:List (Nat×Nat)} {rest x:Nat} {T:Nat->Prop} (hr:rest<2^32) (hrx:rest &&& x=0) (hd:∀ d∈fds,d.2<2^32) (hc:Closed2 fds mvds T) (hs:∀ r,T r->∀ i,r.testBit i=true->rest.testBit i=true) :
  ∀ b∈finB fds mvds rest,Exch T (fun r s=>∀ i,i<32->x.testBit i=true->eqR r s i) eqR 32 b:=by
 have hm:∀ m∈Ais fds mvds,MvH T eqR 32 m:=by
  have ext:∀ {r s:Nat} {l:Nat},T r->T s->(∀ i,i<32->l.testBit i=true->eqR r s i)->Abh l r s:=by
   intro r s l hr' hs' h i hi;by_cases hlt:i<32
   ·exact h i hlt hi
   ·have:∀ u,T u->u.testBit i=false:=fun u hu=>by
     cases hq:u.testBit i with
     | false=>rfl
     | true=>exact absurd (Ace.1 hr i (hs u hu i hq)) hlt
    rw [this r hr',this s hs']
  intro m hm r s hr' hs' h;rcases List.mem_append.1 hm with hm | hm
  ·refine ⟨_,hc.mv m hm r s hr' hs' (ext hr' hs' h),fun i _ hi=>?_,fun i _ hi=>?_⟩
   ·show (mixR m r s).testBit i=_;rw [Afu,if_pos hi]
   ·show (mixR m r s).testBit i=_;rw [Afu,hi];rfl
  ·obtain ⟨d,hdm,hm⟩:=List.mem_flatMap.1 hm;obtain ⟨a,ha,rfl⟩:=List.mem_map.1 hm;have ha:=(Ab1 (hd d hdm)).1 ha;have hag:=hc.fd d hdm r s hr' hs' (ext hr' hs' h);refine ⟨s,hs',fun i hi hq=>?_,fun i _ _=>rfl⟩;rw [Nat.testBit_or,Bool.or_eq_true] at hq;rcases hq with hq | hq
   ·exact (h i hi hq).symm
   ·have:(2^a).testBit i=true:=hq;rw [Acn,decide_eq_true_eq] at this;subst this;exact (hag a ha).symm
 refine Aqn Blu (fun _ _=>Iff.rfl) hrx hm Ajy ?_;intro b hb r s hr' hs' ha;have hb:b=rest:=by
  unfold Akp at hb
  split at hb
  ·cases hb
  ·simpa using hb
 subst hb;refine ⟨r,hr',ha,fun _ _ _=>rfl,fun _ _ _=>rfl,fun i _ hi=>?_⟩;have:∀ u,T u->u.testBit i=false:=fun u hu=>by
  cases hq:u.testBit i with
  | false=>rfl
  | true=>rw [hs u hu i hq] at hi;cases hi
 show r.testBit i=s.testBit i;rw [this r hr',this s hs']
section
variable {fds mvds:List (Nat×Nat)} {rest x live:Nat} {T:Nat->Prop}
theorem Bhl (hr:rest<2^32) (hrx:rest &&& x=0) (hd:∀ d∈fds,d.2<2^32) (hci:CI fds (finB fds mvds rest) rest live T) (hc:Closed2 fds mvds T) (i:Nat):(rest.testBit i=true/\live.testBit i=false)↔(2^i∈finB fds mvds rest/\∃ d∈fds,d.2.testBit i=true/\d.1.testBit i=false):=by
 have hs:∀ r,T r->∀ i,r.testBit i=true->rest.testBit i=true:=fun r hr i hi=>hci.lsub i (hci.sub r hr i hi);constructor
 ·rintro ⟨h1,h2⟩;exact hci.dead i h1 h2
 ·rintro ⟨hb,d,hdm,h1,h2⟩;have hp:=(Arm (fds:=fds) (mvds:=mvds) hr).1;have hri:rest.testBit i=true:=(hp.all i).2 ⟨_,hb,by rw [Acn];simp⟩;refine ⟨hri,?_⟩;cases hl:live.testBit i with
  | false=>rfl
  | true=>
   have hi32:i<32:=Ace.1 hr i hri;obtain ⟨u,hu,_,_,h4,h5⟩:=Bia hr hrx hd hc hs _ hb 0 live hci.zero hci.top (fun j _ hj=>by
    have hrj:rest.testBit j=false:=by
     cases hq:rest.testBit j with
     | false=>rfl
     | true=>rw [Abx.1 hrx j hq] at hj;cases hj
    show (0:Nat).testBit j=live.testBit j;have:live.testBit j=false:=by
     cases hq:live.testBit j with
     | false=>rfl
     | true=>rw [hci.lsub j hq] at hrj;cases hrj
    rw [this,Nat.zero_testBit])
   have hui:u.testBit i=false:=by
    have:=h4 i hi32 (by rw [Acn];simp);unfold eqR at this;rw [this,Nat.zero_testBit]
   have hag:Abh d.1 u live:=by
    intro j hj;by_cases hj32:j<32
    ·refine h5 j hj32 ?_;rw [Acn,decide_eq_false_iff_not];rintro rfl;rw [h2] at hj;cases hj
    ·have:∀ v,T v->v.testBit j=false:=fun v hv=>by
      cases hq:v.testBit j with
      | false=>rfl
      | true=>exact absurd (Ace.1 hr j (hs v hv j hq)) hj32
     rw [this u hu,this live hci.top]
   have:=hc.fd d hdm u live hu hci.top hag i h1;rw [hui,hl] at this;cases this
end
end Go.Own
