/- What the functions answer. No conditions. -/
import Derived.Test.YtockohmmmlhhfabGreatDoorOwn23
import Derived.Test.YtockohmmmlhhfabGreatDoorOwn33
set_option linter.all false
namespace Go.Own
def top:IntKind->Nat
 | .u8=>8
 | .u32=>32
 | .u64=>64
 | .i64=>63
 | _=>0
theorem Apf (k:IntKind):top k<=k.bits:=by cases k<;>decide
theorem Ag0 {k:IntKind} {n:Nat} (h:n<2^top k):k.wrap (n:Int)=n:=by
 cases k<;>simp only [top] at h<;>simp only [IntKind.wrap,IntKind.bits,IntKind.signed]<;>simp<;>omega
theorem An7 {k:IntKind} {n:Nat} (h:n<2^top k):(BitVec.ofInt k.bits (n:Int)).toNat=n:=by
 have h2:n<2^k.bits:=Nat.lt_of_lt_of_le h (Nat.pow_le_pow_right (by decide) (Apf k));have e:BitVec.ofInt k.bits (n:Int)=BitVec.ofNat k.bits n:=by rw [BitVec.ofInt_natCast]
 rw [e,BitVec.toNat_ofNat,Nat.mod_eq_of_lt h2]
theorem Baj {k:IntKind} {a b:Nat} (ha:a<2^top k) (hb:b<2^top k):bAnd k (a:Int) (b:Int)=((a &&& b:Nat):Int):=by
 unfold bAnd;rw [BitVec.toNat_and,An7 ha,An7 hb];exact Ag0 (Nat.lt_of_le_of_lt Nat.and_le_left ha)
theorem Alp {k:IntKind} {a i:Nat} (ha:a<2^top k):shrw k (a:Int) (i:Int)=((a / 2^i:Nat):Int):=by
 unfold shrw;rw [Int.toNat_natCast];have e:((2:Int)^min i k.bits)=((2^min i k.bits:Nat):Int):=by simp
 rw [e,Int.fdiv_eq_ediv_of_nonneg _ (Int.natCast_nonneg _),← Int.natCast_ediv];congr 1;by_cases h:i<=k.bits
 ·rw [Nat.min_eq_left h]
 ·have h2:a<2^k.bits:=Nat.lt_of_lt_of_le ha (Nat.pow_le_pow_right (by decide) (Apf k));rw [Nat.min_eq_right (by omega),Nat.div_eq_of_lt h2,Nat.div_eq_of_lt (Nat.lt_of_lt_of_le h2 (Nat.pow_le_pow_right (by decide) (by omega)))]
theorem Bba {k:IntKind} {i:Nat} (hi:i<top k):shlw k 1 (i:Int)=((2^i:Nat):Int):=by
 unfold shlw;have h2:=Apf k;rw [Int.toNat_natCast,Nat.min_eq_left (by omega),Int.one_mul];have e:((2:Int)^i)=((2^i:Nat):Int):=by simp
 rw [e];exact Ag0 (Nat.pow_lt_pow_right (by decide) hi)
theorem Bc0 {k:IntKind} {a i:Nat} (ha:a<2^top k) (hk:0<top k):bAnd k (shrw k (a:Int) (i:Int)) 1=if a.testBit i then 1 else 0:=by
 rw [Alp ha];have h1:(1:Nat)<2^top k:=Nat.one_lt_two_pow (by omega);have:=Baj (k:=k) (a:=a / 2^i) (b:=1) (Nat.lt_of_le_of_lt (Nat.div_le_self _ _) ha) h1;rw [show ((1:Nat):Int)=1 from rfl] at this;rw [this,Nat.and_one_is_mod,Nat.testBit_eq_decide_div_mod_eq];by_cases h:a / 2^i % 2=1
 ·simp [h]
 ·have:a / 2^i % 2=0:=by omega
  simp [this]
theorem Ajr {x:Int} (h:okI .u8 x):0<=x/\x<256:=by
 have h1:=h.1;have h2:=h.2;have e1:IntKind.min .u8=0:=rfl;have e2:IntKind.max .u8=255:=rfl;omega
end Go.Own
