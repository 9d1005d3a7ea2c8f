/- What the functions answer. No conditions. -/
import Derived.Test.YtmiedlcblpiemaaGreatDoorOwn35
import Derived.Test.YtmiedlcblpiemaaGreatDoorBase2
set_option linter.all false
namespace Go.Own
def top:IntKind->Nat
 | .u8=>8
 | .u32=>32
 | .u64=>64
 | .i64=>63
 | _=>0
theorem Am5 (k:IntKind):top k<=k.bits:=by cases k<;>decide
theorem Afa {k:IntKind} {n:Nat} (h:n<2^top k):k.wrap (n:Int)=n:=by
 cases k<;>simp only [top] at h<;>simp only [IntKind.wrap,IntKind.bits,IntKind.signed]<;>simp<;>omega
theorem Ae5 {k:IntKind} {n:Nat} (h:n<2^top k):(BitVec.ofInt k.bits (n:Int)).toNat=n:=by
 have h2:n<2^k.bits:=Nat.lt_of_lt_of_le h (Nat.pow_le_pow_right (by decide) (Am5 k));have e:BitVec.ofInt k.bits (n:Int)=BitVec.ofNat k.bits n:=by rw [BitVec.ofInt_natCast]
 rw [e,BitVec.toNat_ofNat,Nat.mod_eq_of_lt h2]
theorem Apj {k:IntKind} {a b:Nat} (ha:a<2^top k) (hb:b<2^top k):bAnd k (a:Int) (b:Int)=((a &&& b:Nat):Int):=by
 unfold bAnd;rw [BitVec.toNat_and,Ae5 ha,Ae5 hb];exact Afa (Nat.lt_of_le_of_lt Nat.and_le_left ha)
theorem Ao6 {k:IntKind} {a b:Nat} (ha:a<2^top k) (hb:b<2^top k):bOr k (a:Int) (b:Int)=((a ||| b:Nat):Int):=by
 unfold bOr;rw [BitVec.toNat_or,Ae5 ha,Ae5 hb];exact Afa (Nat.or_lt_two_pow ha hb)
theorem Bcs {k:IntKind} {a b:Nat} (ha:a<2^top k) (hb:b<2^top k):bXor k (a:Int) (b:Int)=((a ^^^ b:Nat):Int):=by
 unfold bXor;rw [BitVec.toNat_xor,Ae5 ha,Ae5 hb];exact Afa (Nat.xor_lt_two_pow ha hb)
def Ac0 (a b:Nat):Nat:=a &&& (a ^^^ b)
theorem Agc {a b i:Nat}:(Ac0 a b).testBit i=(a.testBit i&&!b.testBit i):=by
 unfold Ac0;rw [Nat.testBit_and,Nat.testBit_xor];cases a.testBit i<;>cases b.testBit i<;>rfl
theorem Ahm {a b:Nat}:Ac0 a b<=a:=Nat.and_le_left
theorem Akg {k:IntKind} {a b:Nat} (ha:a<2^top k) (hb:b<2^top k):Akp k (a:Int) (b:Int)=((Ac0 a b:Nat):Int):=by
 unfold Akp;have:(BitVec.ofInt k.bits (a:Int) &&& ~~~BitVec.ofInt k.bits (b:Int)).toNat=Ac0 a b:=by
  apply Nat.eq_of_testBit_eq;intro i;rw [Agc,BitVec.toNat_and,Nat.testBit_and,Ae5 ha,BitVec.testBit_toNat,BitVec.getLsbD_not,← BitVec.testBit_toNat,Ae5 hb];by_cases hi:i<k.bits
  ·simp [hi]
  ·have:a.testBit i=false:=Nat.testBit_lt_two_pow (Nat.lt_of_lt_of_le ha (Nat.pow_le_pow_right (by decide) (Nat.le_trans (Am5 k) (by omega))));simp [hi,this]
 rw [this];exact Afa (Nat.lt_of_le_of_lt Ahm ha)
theorem Ajh {k:IntKind} {a i:Nat} (ha:a<2^top k):shrw k (a:Int) (i:Int)=((a / 2^i:Nat):Int):=by
 unfold shrw;rw [Int.toNat_natCast];have e:((2:Int)^min i k.bits)=((2^min i k.bits:Nat):Int):=by simp
 rw [e,Int.fdiv_eq_ediv_of_nonneg _ (Int.natCast_nonneg _),← Int.natCast_ediv];congr 1;by_cases h:i<=k.bits
 ·rw [Nat.min_eq_left h]
 ·have h2:a<2^k.bits:=Nat.lt_of_lt_of_le ha (Nat.pow_le_pow_right (by decide) (Am5 k));rw [Nat.min_eq_right (by omega),Nat.div_eq_of_lt h2,Nat.div_eq_of_lt (Nat.lt_of_lt_of_le h2 (Nat.pow_le_pow_right (by decide) (by omega)))]
theorem Awp {k:IntKind} {i:Nat} (hi:i<top k):shlw k 1 (i:Int)=((2^i:Nat):Int):=by
 unfold shlw;have h2:=Am5 k;rw [Int.toNat_natCast,Nat.min_eq_left (by omega),Int.one_mul];have e:((2:Int)^i)=((2^i:Nat):Int):=by simp
 rw [e];exact Afa (Nat.pow_lt_pow_right (by decide) hi)
theorem Beq {k:IntKind} {a i:Nat} (ha:a<2^top k) (hk:0<top k):bAnd k (shrw k (a:Int) (i:Int)) 1=if a.testBit i then 1 else 0:=by
 rw [Ajh ha];have h1:(1:Nat)<2^top k:=Nat.one_lt_two_pow (by omega);have:=Apj (k:=k) (a:=a / 2^i) (b:=1) (Nat.lt_of_le_of_lt (Nat.div_le_self _ _) ha) h1;rw [show ((1:Nat):Int)=1 from rfl] at this;rw [this,Nat.and_one_is_mod,Nat.testBit_eq_decide_div_mod_eq];by_cases h:a / 2^i % 2=1
 ·simp [h]
 ·have:a / 2^i % 2=0:=by omega
  simp [this]
theorem Arr {x:Int} (h:okI .u32 x):0<=x/\x<4294967296:=by
 have h1:=h.1;have h2:=h.2;have e1:IntKind.min .u32=0:=rfl;have e2:IntKind.max .u32=4294967295:=rfl;omega
theorem Bhk {x:Int} (h:okI .i64 x) : -9223372036854775808<=x/\x<9223372036854775808:=by
 have h1:=h.1;have h2:=h.2;have e1:IntKind.min .i64 = -9223372036854775808:=rfl;have e2:IntKind.max .i64=9223372036854775807:=rfl;omega
theorem Bh0 {a b:Nat}:a &&& b=a↔∀ i,a.testBit i=true->b.testBit i=true:=by
 constructor
 ·intro h i hi;have:=congrArg (·.testBit i) h;simp only [Nat.testBit_and,hi,Bool.true_and] at this;exact this
 ·intro h;apply Nat.eq_of_testBit_eq;intro i;rw [Nat.testBit_and];cases ha:a.testBit i with
  | false=>rfl
  | true=>rw [h i ha];rfl
theorem Bja {a n:Nat}:a<2^n↔∀ i,a.testBit i=true->i<n:=by
 constructor
 ·intro h i hi
  false_or_by_contra
  rw [Nat.testBit_lt_two_pow (Nat.lt_of_lt_of_le h (Nat.pow_le_pow_right (by decide) (by omega)))] at hi;cases hi
 ·intro h;apply Nat.lt_pow_two_of_testBit;intro i hi;cases ha:a.testBit i with
  | false=>rfl
  | true=>have:=h i ha;omega
theorem Azv {a b n:Nat}:a ||| b<2^n↔a<2^n/\b<2^n:=by
 constructor
 ·intro h;exact ⟨Nat.lt_of_le_of_lt Nat.left_le_or h,Nat.lt_of_le_of_lt Nat.right_le_or h⟩
 ·exact fun h=>Nat.or_lt_two_pow h.1 h.2
theorem Bd1 {a n:Nat}:a / 2^n=0↔a<2^n:=by
 rw [Nat.div_eq_zero_iff];have:0<2^n:=Nat.pos_of_ne_zero (by simp);omega
end Go.Own
