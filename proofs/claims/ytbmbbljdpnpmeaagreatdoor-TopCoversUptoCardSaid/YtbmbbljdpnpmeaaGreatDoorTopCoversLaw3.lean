/- No conditions. -/
import Derived.Test.YtbmbbljdpnpmeaaGreatDoorOwn26
import Derived.Test.YtbmbbljdpnpmeaaGreatDoorOwn31
set_option linter.all false
namespace Go.Own
def top:IntKind->Nat
 | .u8=>8
 | .u32=>32
 | .u64=>64
 | .i64=>63
 | _=>0
theorem Anb (k:IntKind):top k<=k.bits:=by cases k<;>decide
theorem Abx {k:IntKind} {n:Nat} (h:n<2^top k):k.wrap (n:Int)=n:=by
 cases k<;>simp only [top] at h<;>simp only [IntKind.wrap,IntKind.bits,IntKind.signed]<;>simp<;>omega
theorem Ae1 {k:IntKind} {n:Nat} (h:n<2^top k):(BitVec.ofInt k.bits (n:Int)).toNat=n:=by
 have h2:n<2^k.bits:=Nat.lt_of_lt_of_le h (Nat.pow_le_pow_right (by decide) (Anb k));have e:BitVec.ofInt k.bits (n:Int)=BitVec.ofNat k.bits n:=by rw [BitVec.ofInt_natCast]
 rw [e,BitVec.toNat_ofNat,Nat.mod_eq_of_lt h2]
theorem Aem {k:IntKind} {a b:Nat} (ha:a<2^top k) (hb:b<2^top k):bAnd k (a:Int) (b:Int)=((a &&& b:Nat):Int):=by
 unfold bAnd;rw [BitVec.toNat_and,Ae1 ha,Ae1 hb];exact Abx (Nat.lt_of_le_of_lt Nat.and_le_left ha)
theorem Ajj {k:IntKind} {a b:Nat} (ha:a<2^top k) (hb:b<2^top k):bOr k (a:Int) (b:Int)=((a ||| b:Nat):Int):=by
 unfold bOr;rw [BitVec.toNat_or,Ae1 ha,Ae1 hb];exact Abx (Nat.or_lt_two_pow ha hb)
theorem Awr {k:IntKind} {a b:Nat} (ha:a<2^top k) (hb:b<2^top k):bXor k (a:Int) (b:Int)=((a ^^^ b:Nat):Int):=by
 unfold bXor;rw [BitVec.toNat_xor,Ae1 ha,Ae1 hb];exact Abx (Nat.xor_lt_two_pow ha hb)
def Acv (a b:Nat):Nat:=a &&& (a ^^^ b)
theorem Afk {a b i:Nat}:(Acv a b).testBit i=(a.testBit i&&!b.testBit i):=by
 unfold Acv;rw [Nat.testBit_and,Nat.testBit_xor];cases a.testBit i<;>cases b.testBit i<;>rfl
theorem Amu {a b:Nat}:Acv a b<=a:=Nat.and_le_left
theorem Aic {k:IntKind} {a b:Nat} (ha:a<2^top k) (hb:b<2^top k):Aaa k (a:Int) (b:Int)=((Acv a b:Nat):Int):=by
 unfold Aaa;have:(BitVec.ofInt k.bits (a:Int) &&& ~~~BitVec.ofInt k.bits (b:Int)).toNat=Acv a b:=by
  apply Nat.eq_of_testBit_eq;intro i;rw [Afk,BitVec.toNat_and,Nat.testBit_and,Ae1 ha,BitVec.testBit_toNat,BitVec.getLsbD_not,← BitVec.testBit_toNat,Ae1 hb];by_cases hi:i<k.bits
  ·simp [hi]
  ·have:a.testBit i=false:=Nat.testBit_lt_two_pow (Nat.lt_of_lt_of_le ha (Nat.pow_le_pow_right (by decide) (Nat.le_trans (Anb k) (by omega))));simp [hi,this]
 rw [this];exact Abx (Nat.lt_of_le_of_lt Amu ha)
theorem Ae5 {k:IntKind} {a i:Nat} (ha:a<2^top k):shrw k (a:Int) (i:Int)=((a / 2^i:Nat):Int):=by
 unfold shrw;rw [Int.toNat_natCast];have e:((2:Int)^min i k.bits)=((2^min i k.bits:Nat):Int):=by simp
 rw [e,Int.fdiv_eq_ediv_of_nonneg _ (Int.natCast_nonneg _),← Int.natCast_ediv];congr 1;by_cases h:i<=k.bits
 ·rw [Nat.min_eq_left h]
 ·have h2:a<2^k.bits:=Nat.lt_of_lt_of_le ha (Nat.pow_le_pow_right (by decide) (Anb k));rw [Nat.min_eq_right (by omega),Nat.div_eq_of_lt h2,Nat.div_eq_of_lt (Nat.lt_of_lt_of_le h2 (Nat.pow_le_pow_right (by decide) (by omega)))]
theorem Agl {k:IntKind} {i:Nat} (hi:i<top k):shlw k 1 (i:Int)=((2^i:Nat):Int):=by
 unfold shlw;have h2:=Anb k;rw [Int.toNat_natCast,Nat.min_eq_left (by omega),Int.one_mul];have e:((2:Int)^i)=((2^i:Nat):Int):=by simp
 rw [e];exact Abx (Nat.pow_lt_pow_right (by decide) hi)
theorem Bh1 {k:IntKind} {a i:Nat} (ha:a<2^top k) (hk:0<top k):bAnd k (shrw k (a:Int) (i:Int)) 1=if a.testBit i then 1 else 0:=by
 rw [Ae5 ha];have h1:(1:Nat)<2^top k:=Nat.one_lt_two_pow (by omega);have:=Aem (k:=k) (a:=a / 2^i) (b:=1) (Nat.lt_of_le_of_lt (Nat.div_le_self _ _) ha) h1;rw [show ((1:Nat):Int)=1 from rfl] at this;rw [this,Nat.and_one_is_mod,Nat.testBit_eq_decide_div_mod_eq];by_cases h:a / 2^i % 2=1
 ·simp [h]
 ·have:a / 2^i % 2=0:=by omega
  simp [this]
theorem Azk {k:IntKind} {a i:Nat} (ha:a<2^top k) (hk:0<top k):(bAnd k (shrw k (a:Int) (i:Int)) 1=0)↔a.testBit i=false:=by
 rw [Bh1 ha hk];cases a.testBit i<;>simp
def Aex (f:Nat->Bool):Nat->Nat
 | 0=>0
 | n+1=>Aex f n+if f n then 2^n else 0
theorem Akz {f:Nat->Bool}:∀ n,Aex f n<2^n
 | 0=>by simp [Aex]
 | n+1=>by
  have:=Akz (f:=f) n;simp only [Aex,Nat.pow_succ]
  split<;>omega
theorem Amv {f:Nat->Bool} {i:Nat}:∀ {n},(Aex f n).testBit i=(decide (i<n)&&f i)
 | 0=>by simp [Aex]
 | n+1=>by
  have h:=Akz (f:=f) n;have ih:=Amv (f:=f) (i:=i) (n:=n);simp only [Aex];by_cases hin:i=n
  ·subst hin;have h0:(Aex f i).testBit i=false:=Nat.testBit_lt_two_pow h;cases hf:f i
   ·simp [h0]
   ·rw [if_pos rfl,Nat.add_comm,Nat.testBit_two_pow_add_eq,h0];simp
  ·have e:decide (i<n+1)=decide (i<n):=by
    by_cases h1:i<n
    ·simp [h1];omega
    ·simp [h1];omega
   rw [e];cases hf:f n
   ·simpa using ih
   ·rw [if_pos rfl,← ih];by_cases h1:i<n
    ·rw [Nat.add_comm,Nat.testBit_two_pow_add_gt h1]
    ·rw [Nat.testBit_lt_two_pow (x:=Aex f n) (Nat.lt_of_lt_of_le h (Nat.pow_le_pow_right (by decide) (by omega)))];apply Nat.testBit_lt_two_pow;have:2^(n+1)<=2^i:=Nat.pow_le_pow_right (by decide) (by omega);rw [Nat.pow_succ] at this;omega
theorem Bc7 {x:Int} (h:okI .u8 x):0<=x/\x<256:=by
 have h1:=h.1;have h2:=h.2;have e1:IntKind.min .u8=0:=rfl;have e2:IntKind.max .u8=255:=rfl;omega
theorem Ado {a b:Nat}:a &&& b=a↔∀ i,a.testBit i=true->b.testBit i=true:=by
 constructor
 ·intro h i hi;have:=congrArg (·.testBit i) h;simp only [Nat.testBit_and,hi,Bool.true_and] at this;exact this
 ·intro h;apply Nat.eq_of_testBit_eq;intro i;rw [Nat.testBit_and];cases ha:a.testBit i with
  | false=>rfl
  | true=>rw [h i ha];rfl
theorem Acm {a n:Nat}:a<2^n↔∀ i,a.testBit i=true->i<n:=by
 constructor
 ·intro h i hi
  false_or_by_contra
  rw [Nat.testBit_lt_two_pow (Nat.lt_of_lt_of_le h (Nat.pow_le_pow_right (by decide) (by omega)))] at hi;cases hi
 ·intro h;apply Nat.lt_pow_two_of_testBit;intro i hi;cases ha:a.testBit i with
  | false=>rfl
  | true=>have:=h i ha;omega
theorem Bm3 {a b n:Nat}:a ||| b<2^n↔a<2^n/\b<2^n:=by
 constructor
 ·intro h;exact ⟨Nat.lt_of_le_of_lt Nat.left_le_or h,Nat.lt_of_le_of_lt Nat.right_le_or h⟩
 ·exact fun h=>Nat.or_lt_two_pow h.1 h.2
theorem Bbh {a b:Nat}:Acv a b=0↔∀ i,a.testBit i=true->b.testBit i=true:=by
 constructor
 ·intro h i hi;have:=congrArg (·.testBit i) h;simp only [Afk,hi,Nat.zero_testBit,Bool.true_and] at this;simpa using this
 ·intro h;apply Nat.eq_of_testBit_eq;intro i;rw [Afk,Nat.zero_testBit];cases ha:a.testBit i with
  | false=>rfl
  | true=>rw [h i ha];rfl
theorem Bf8 {a n:Nat}:a / 2^n=0↔a<2^n:=by
 rw [Nat.div_eq_zero_iff];have:0<2^n:=Nat.pos_of_ne_zero (by simp);omega
structure BPart (rest:Nat) (bs:List Nat):Prop where
 ne:∀ b∈bs,b≠0
 dis:bs.Pairwise fun a b=>a &&& b=0
 all:∀ i,rest.testBit i=true↔∃ b∈bs,b.testBit i=true
theorem Axw:∀ {n:Nat} {l:List Nat},l.Nodup->(∀ x∈l,x<n)->l.length<=n
 | 0,l,_,h=>by
  cases l with
  | nil=>exact Nat.le_refl _
  | cons x l=>exact absurd (h x (by simp)) (by omega)
 | n+1,l,hn,h=>by
  have h1:=Axw (n:=n) (l:=l.filter fun x=>x != n) (hn.filter _) fun x hx=>by
   obtain ⟨hx,hne⟩:=List.mem_filter.1 hx;have:=h x hx;have:x≠n:=by simpa using hne
   omega
  have h2:(l.filter fun x=>x != n).length+l.count n=l.length:=by
   clear h h1 hn
   induction l with
   | nil=>rfl
   | cons x l ih=>
    by_cases hx:x=n
    ·subst hx;simp;omega
    ·simp [hx];omega
  have h3:l.count n<=1:=List.nodup_iff_count.1 hn n;omega
section
variable {ρ:Type} (T:ρ->Prop) (A:ρ->ρ->Prop) (eq:ρ->ρ->Nat->Prop) (n:Nat)
structure EqOK:Prop where
 refl:∀ r i,eq r r i
 symm:∀ {r s i},eq r s i->eq s r i
 trans:∀ {r s t i},eq r s i->eq s t i->eq r t i
variable {T A eq n}
end
end Go.Own
