/- What the functions answer. No conditions. -/
import Derived.Test.YtockohmmmlhhfadGreatDoorOwn23
import Derived.Test.YtockohmmmlhhfadGreatDoorOwn33
set_option linter.all false
namespace Go.Own
def top:IntKind->Nat
 | .u8=>8
 | .u32=>32
 | .u64=>64
 | .i64=>63
 | _=>0
theorem Amw (k:IntKind):top k<=k.bits:=by cases k<;>decide
theorem Adh {k:IntKind} {n:Nat} (h:n<2^top k):k.wrap (n:Int)=n:=by
 cases k<;>simp only [top] at h<;>simp only [IntKind.wrap,IntKind.bits,IntKind.signed]<;>simp<;>omega
theorem Adu {k:IntKind} {n:Nat} (h:n<2^top k):(BitVec.ofInt k.bits (n:Int)).toNat=n:=by
 have h2:n<2^k.bits:=Nat.lt_of_lt_of_le h (Nat.pow_le_pow_right (by decide) (Amw k));have e:BitVec.ofInt k.bits (n:Int)=BitVec.ofNat k.bits n:=by rw [BitVec.ofInt_natCast]
 rw [e,BitVec.toNat_ofNat,Nat.mod_eq_of_lt h2]
theorem Aw0 {k:IntKind} {a b:Nat} (ha:a<2^top k) (hb:b<2^top k):bAnd k (a:Int) (b:Int)=((a &&& b:Nat):Int):=by
 unfold bAnd;rw [BitVec.toNat_and,Adu ha,Adu hb];exact Adh (Nat.lt_of_le_of_lt Nat.and_le_left ha)
theorem Asw {k:IntKind} {a b:Nat} (ha:a<2^top k) (hb:b<2^top k):bOr k (a:Int) (b:Int)=((a ||| b:Nat):Int):=by
 unfold bOr;rw [BitVec.toNat_or,Adu ha,Adu hb];exact Adh (Nat.or_lt_two_pow ha hb)
theorem Bdn {k:IntKind} {a b:Nat} (ha:a<2^top k) (hb:b<2^top k):bXor k (a:Int) (b:Int)=((a ^^^ b:Nat):Int):=by
 unfold bXor;rw [BitVec.toNat_xor,Adu ha,Adu hb];exact Adh (Nat.xor_lt_two_pow ha hb)
def Aci (a b:Nat):Nat:=a &&& (a ^^^ b)
theorem Akk {a b i:Nat}:(Aci a b).testBit i=(a.testBit i&&!b.testBit i):=by
 unfold Aci;rw [Nat.testBit_and,Nat.testBit_xor];cases a.testBit i<;>cases b.testBit i<;>rfl
theorem Ajk {a b:Nat}:Aci a b<=a:=Nat.and_le_left
theorem Apn {k:IntKind} {a b:Nat} (ha:a<2^top k) (hb:b<2^top k):Aoy k (a:Int) (b:Int)=((Aci a b:Nat):Int):=by
 unfold Aoy;have:(BitVec.ofInt k.bits (a:Int) &&& ~~~BitVec.ofInt k.bits (b:Int)).toNat=Aci a b:=by
  apply Nat.eq_of_testBit_eq;intro i;rw [Akk,BitVec.toNat_and,Nat.testBit_and,Adu ha,BitVec.testBit_toNat,BitVec.getLsbD_not,← BitVec.testBit_toNat,Adu hb];by_cases hi:i<k.bits
  ·simp [hi]
  ·have:a.testBit i=false:=Nat.testBit_lt_two_pow (Nat.lt_of_lt_of_le ha (Nat.pow_le_pow_right (by decide) (Nat.le_trans (Amw k) (by omega))));simp [hi,this]
 rw [this];exact Adh (Nat.lt_of_le_of_lt Ajk ha)
theorem Ahq {k:IntKind} {a i:Nat} (ha:a<2^top k):shrw k (a:Int) (i:Int)=((a / 2^i:Nat):Int):=by
 unfold shrw;rw [Int.toNat_natCast];have e:((2:Int)^min i k.bits)=((2^min i k.bits:Nat):Int):=by simp
 rw [e,Int.fdiv_eq_ediv_of_nonneg _ (Int.natCast_nonneg _),← Int.natCast_ediv];congr 1;by_cases h:i<=k.bits
 ·rw [Nat.min_eq_left h]
 ·have h2:a<2^k.bits:=Nat.lt_of_lt_of_le ha (Nat.pow_le_pow_right (by decide) (Amw k));rw [Nat.min_eq_right (by omega),Nat.div_eq_of_lt h2,Nat.div_eq_of_lt (Nat.lt_of_lt_of_le h2 (Nat.pow_le_pow_right (by decide) (by omega)))]
theorem Ax9 {k:IntKind} {i:Nat} (hi:i<top k):shlw k 1 (i:Int)=((2^i:Nat):Int):=by
 unfold shlw;have h2:=Amw k;rw [Int.toNat_natCast,Nat.min_eq_left (by omega),Int.one_mul];have e:((2:Int)^i)=((2^i:Nat):Int):=by simp
 rw [e];exact Adh (Nat.pow_lt_pow_right (by decide) hi)
theorem Asl {x:Int} (h:okI .u8 x):0<=x/\x<256:=by
 have h1:=h.1;have h2:=h.2;have e1:IntKind.min .u8=0:=rfl;have e2:IntKind.max .u8=255:=rfl;omega
theorem Bl6 {a b n:Nat}:a ||| b<2^n↔a<2^n/\b<2^n:=by
 constructor
 ·intro h;exact ⟨Nat.lt_of_le_of_lt Nat.left_le_or h,Nat.lt_of_le_of_lt Nat.right_le_or h⟩
 ·exact fun h=>Nat.or_lt_two_pow h.1 h.2
theorem Be1 {a n:Nat}:a / 2^n=0↔a<2^n:=by
 rw [Nat.div_eq_zero_iff];have:0<2^n:=Nat.pos_of_ne_zero (by simp);omega
end Go.Own
