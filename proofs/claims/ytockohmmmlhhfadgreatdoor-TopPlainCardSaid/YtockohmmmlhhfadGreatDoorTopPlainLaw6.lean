/- What the functions answer. No conditions. -/
import Derived.Laws.Strings
import Derived.Test.YtockohmmmlhhfadGreatDoorTopPlainLaw3
import Derived.Test.YtockohmmmlhhfadGreatDoorTopPlainLaw1
import Derived.Test.YtockohmmmlhhfadGreatDoorBase5
set_option linter.all false
namespace Go.Own
def cmpI (a b:Int):Int:=if a<b then -1 else if b<a then 1 else 0
theorem down {n : Nat} {P : Nat -> Prop} (h0 : P n) (hs : ∀ k, k < n -> P (k + 1) -> P k) : ∀ k, k <= n -> P k := by
  have : ∀ m k, k + m = n -> P k := by
    intro m
    induction m with
    | zero => intro k hk; have : k = n := by omega
              subst this; exact h0
    | succ m ih => intro k hk; exact hs k (by omega) (ih (k + 1) (by omega))
  intro k hk;exact this (n - k) k (by omega)
def Alk {α:Type} (p:α->Bool):List α->Nat->Int
 | [],_=>-1
 | a::r,k=>if p a=true then (k:Int) else Alk p r (k+1)
def ixI {α:Type} (p:α->Bool) (l:List α):Int:=Alk p l 0
theorem Arq {α:Type} {p:α->Bool}:∀ {l:List α} {k:Nat},decide (0<=Alk p l k)=l.any p
 | [],_=>rfl
 | a::r,k=>by
  simp only [Alk,List.any_cons]
  split
  ·rename_i h;simp [h]
  ·rename_i h;rw [Arq,Bool.eq_false_iff.2 h];simp
theorem Az0 {α:Type} {p:α->Bool} {l:List α}:decide (0<=ixI p l)=l.any p:=Arq
theorem Aro {α : Type} {l : List α} {p : α -> Bool} {L : Int -> Prop} {φ : Int -> Prop} (stop : φ (-1) -> L (l.length : Int))
    (step : ∀ (k : Nat) a, l[k]? = some a -> k < l.length -> (if p a = true then φ (k : Int) else L ((k + 1 : Nat) : Int)) -> L k) (h : φ (ixI p l)) : L 0 := by
  have : ∀ (r : List α) (k : Nat), l.drop k = r -> k <= l.length -> φ (Alk p r k) -> L k := by
    intro r
    induction r with
    | nil => intro k hd hk h; have : k = l.length := by have := Aar hd; omega
             subst this; exact stop h
    | cons a r ih =>
      intro k hd hk h;have hlt := Aas hd;refine step k a (Aae hd) hlt ?_;simp only [Alk] at h
      split
      · rename_i hp; rw [if_pos hp] at h; exact h
      · rename_i hp; rw [if_neg hp] at h; exact ih (k + 1) (Aa8 hd) hlt h
  exact this l 0 rfl (Nat.zero_le _) h
theorem Am2 {α : Type} {l : List α} {p : α -> Bool} {L : Int -> Prop} {φ : Bool -> Prop} (stop : φ true -> L (l.length : Int))
    (step : ∀ (k : Nat) a, l[k]? = some a -> k < l.length -> (if p a = true then L ((k + 1 : Nat) : Int) else φ false) -> L k) (h : φ (l.all p)) : L 0 := by
  have : ∀ (r : List α) (k : Nat), l.drop k = r -> k <= l.length -> φ (r.all p) -> L k := by
    intro r
    induction r with
    | nil => intro k hd hk h; have : k = l.length := by have := Aar hd; omega
             subst this; exact stop h
    | cons a r ih =>
      intro k hd hk h;have hlt := Aas hd;refine step k a (Aae hd) hlt ?_;simp only [List.all_cons] at h
      split
      · rename_i hp; rw [hp, Bool.true_and] at h; exact ih (k + 1) (Aa8 hd) hlt h
      · rename_i hp
        have hp : p a = false := by simpa using hp
        rw [hp, Bool.false_and] at h; exact h
  exact this l 0 rfl (Nat.zero_le _) h
theorem Abx {α:Type} {l:List α} {k:Nat} {a:α} (h:l[k]? = some a):lget l (k:Int)=some a:=by rw [Ab5];exact h
theorem Am7 {s:ByteArray}:s.toList=s.data.toList:=ByteArray.toList_eq s
theorem Alb {a b:ByteArray}:a.toList=b.toList↔a=b:=by
 constructor
 ·intro h;rw [Am7,Am7] at h;obtain ⟨⟨a⟩⟩:=a;obtain ⟨⟨b⟩⟩:=b;simp only at h;rw [h]
 ·rintro rfl;rfl
theorem Ahi {s:ByteArray}:Ag6 s=(s.toList.length:Int):=by
 rw [Am7];rfl
theorem bget {s:ByteArray} {i:Nat}:s[i]? = s.toList[i]?:=by
 rw [Am7];by_cases h:i<s.size
 ·rw [getElem?_pos s i h,List.getElem?_eq_getElem (by exact h)];rfl
 ·rw [getElem?_neg s i h,List.getElem?_eq_none (by simpa using h)]
theorem Asy {s:ByteArray} {k:Nat} {b:UInt8} (h:s.toList[k]? = some b):(0:Int)<=(k:Int)/\s[((k:Nat):Int).toNat]? = some b:=⟨by omega,by rw [Int.toNat_natCast,bget];exact h⟩
theorem Am8 {l:List UInt8}:(⟨l.toArray⟩:ByteArray).toList=l:=by rw [Am7]
theorem Ayo {l:List UInt8}:(bstr l).toList=l:=Am8
theorem Bkl {b:UInt8}:0<=u8i b/\u8i b<256:=by
 unfold u8i;have:=b.toNat_lt;omega
theorem Aph {a b:UInt8}:u8i a=u8i b↔a=b:=by
 unfold u8i;constructor
 ·intro h;exact UInt8.toNat_inj.1 (by omega)
 ·rintro rfl;rfl
theorem Bay {l m:List Nat} (hl:l.Pairwise (·<·)) (hm:m.Pairwise (·<·)) (h:∀ x,x∈l↔x∈m):l=m:=by
 induction l generalizing m with
 | nil=>
  cases m with
  | nil=>rfl
  | cons b m=>have:=(h b).2 (by simp);simp at this
 | cons a l ih=>
  cases m with
  | nil=>have:=(h a).1 (by simp);simp at this
  | cons b m=>
   have ha:=List.pairwise_cons.1 hl;have hb:=List.pairwise_cons.1 hm;have e:a=b:=by
    rcases List.mem_cons.1 ((h a).1 (by simp)) with h1 | h1
    ·exact h1
    ·rcases List.mem_cons.1 ((h b).2 (by simp)) with h2 | h2
     ·exact h2.symm
     ·have:=hb.1 a h1;have:=ha.1 b h2;omega
   subst e;rw [ih ha.2 hb.2];intro x;constructor
   ·intro hx;rcases List.mem_cons.1 ((h x).1 (by simp [hx])) with h1 | h1
    ·subst h1;have:=ha.1 x hx;omega
    ·exact h1
   ·intro hx;rcases List.mem_cons.1 ((h x).2 (by simp [hx])) with h1 | h1
    ·subst h1;have:=hb.1 x hx;omega
    ·exact h1
def Aaa (n:Nat):List Nat:=(List.range 32).filter fun i=>n.testBit i
theorem Abs {n i:Nat} (h:n<2^32):i∈Aaa n↔n.testBit i=true:=by
 unfold Aaa;simp only [List.mem_filter,List.mem_range];constructor
 ·exact fun h=>h.2
 ·intro hi;refine ⟨?_,hi⟩
  false_or_by_contra
  rename_i hn;rw [Nat.testBit_lt_two_pow (Nat.lt_of_lt_of_le h (Nat.pow_le_pow_right (by decide) (by omega)))] at hi;cases hi
theorem Aih {n:Nat}:(Aaa n).Pairwise (·<·):=List.pairwise_lt_range.filter _
theorem Aej {n:Nat}:(Aaa n).length<=32:=Nat.le_trans (List.length_filter_le _ _) (by simp)
theorem Axs:Aaa 0=[]:=by
 unfold Aaa;rw [List.filter_eq_nil_iff];simp
theorem Awx {x:Nat}:∀ {n k:Nat},(∀ j,j<k->x.testBit j=false)->(∃ j,j<n+k/\x.testBit j=true)->x.testBit (Ac9 x n k)=true/\∀ j,j<Ac9 x n k->x.testBit j=false
 | 0,k,h,⟨j,h1,h2⟩=>by rw [h j (by omega)] at h2;cases h2
 | n+1,k,h,⟨j,h1,h2⟩=>by
  simp only [Ac9]
  split
  ·rename_i hk;exact ⟨hk,h⟩
  ·rename_i hk;refine Awx (fun i hi=>?_) ⟨j,by omega,h2⟩;by_cases hik:i=k
   ·subst hik;simpa using hk
   ·exact h i (by omega)
theorem Bi2 {n:Nat} (h0:n≠0) (h:n<2^32):∃ j,j<32/\n.testBit j=true:=by
 obtain ⟨j,hj⟩:=Nat.exists_testBit_of_ne_zero h0;exact ⟨j,by have:=(Abs h).2 hj;unfold Aaa at this;simpa using (List.mem_filter.1 this).1,hj⟩
theorem Bbs {n i:Nat} (hi:n.testBit i=true) (hl:∀ j,j<i->n.testBit j=false) (j:Nat):(n &&& (n-1)).testBit j=(n.testBit j&&decide (j≠i)):=by
 have e:n=2^i*(2*(n / 2^(i+1))+1):=by
  have h1:n % 2^i=0:=by
   apply Nat.eq_of_testBit_eq;intro j;rw [Nat.testBit_mod_two_pow,Nat.zero_testBit];by_cases hj:j<i
   ·rw [hl j hj];simp
   ·simp [hj]
  have h2:n / 2^i % 2=1:=by rw [Nat.testBit_eq_decide_div_mod_eq] at hi;simpa using hi
  have h3:=Nat.div_add_mod n (2^i);have h4:n / 2^(i+1)=n / 2^i / 2:=by rw [Nat.pow_succ,Nat.div_div_eq_div_mul]
  rw [h4];have h5:2*(n / 2^i / 2)+1=n / 2^i:=by omega
  rw [h5];omega
 generalize hm:n / 2^(i+1)=m at e;have hp:0<2^i:=Nat.pos_of_ne_zero (by simp);have e1:n-1=2^i*(2*m)+(2^i-1):=by rw [e,Nat.mul_add];omega
 have e2:n=2^i*(2*m+1)+0:=by rw [e];rfl
 rw [Nat.testBit_and,e1,Nat.testBit_two_pow_mul_add _ (by omega)];by_cases h1:j<i
 ·rw [hl j h1];rfl
 ·rw [if_neg h1];by_cases h2:j=i
  ·subst h2;simp [Nat.testBit_zero]
  ·have h3:(2*m).testBit (j-i)=n.testBit j:=by
    rw [e2,Nat.testBit_two_pow_mul_add _ (by omega),if_neg h1];obtain ⟨q,hq⟩:∃ q,j-i=q+1:=⟨j-i-1,by omega⟩
    rw [hq,Nat.testBit_add_one,Nat.testBit_add_one];congr 1;omega
   rw [h3];simp [h2]
theorem Axr {n:Nat} (h0:n≠0) (h:n<2^32):Aaa n=Ac9 n 32 0::Aaa (n &&& (n-1)):=by
 obtain ⟨h1,h2⟩:=Awx (x:=n) (n:=32) (k:=0) (fun j hj=>by omega) (by simpa using Bi2 h0 h);have hlt:(n &&& (n-1))<2^32:=Nat.lt_of_le_of_lt Nat.and_le_left h;have hb:=Bbs h1 h2;refine Bay Aih ?_ fun x=>?_
 ·refine List.pairwise_cons.2 ⟨fun y hy=>?_,Aih⟩;rw [Abs hlt,hb] at hy;simp only [Bool.and_eq_true,decide_eq_true_eq] at hy;rcases Nat.lt_trichotomy y (Ac9 n 32 0) with h3 | h3 | h3
  ·rw [h2 y h3] at hy;cases hy.1
  ·exact absurd h3 hy.2
  ·exact h3
 ·rw [List.mem_cons,Abs h,Abs hlt,hb];simp only [Bool.and_eq_true,decide_eq_true_eq];by_cases hx:x=Ac9 n 32 0
  ·simp [hx,h1]
  ·simp [hx]
theorem Bdu {n:Nat} (h0:n≠0):(n &&& (n-1))<n:=by
 have:=Nat.and_le_right (n:=n) (m:=n-1);omega
def Akd (k:Nat):Nat:=2^min k 32-1
def sN (x:Int):Nat:=x.toNat
def U32 (x:Int):Prop:=0<=x/\x<4294967296
theorem U32.eq {x:Int} (h:U32 x):x=(sN x:Int):=by have:=h.1;unfold sN;omega
theorem U32.lt {x:Int} (h:U32 x):sN x<2^32:=by have:=h.1;have:=h.2;unfold sN;omega
theorem U32.top {x:Int} (h:U32 x):sN x<2^top .u32:=by simpa [Go.Own.top] using h.lt
theorem U32.of {n:Nat} (h:n<2^32):U32 (n:Int):=⟨by omega,by omega⟩
abbrev visG:Nat:=66
abbrev vioQ:VF:=⟨64,91,92,93,94,66,68,69⟩
abbrev vioS:Nat:=67
end Go.Own
