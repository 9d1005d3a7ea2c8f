/- No conditions. -/
import Derived.Test.YtfpooeoklmlepaaGreatDoorOwn22
import Derived.Test.YtfpooeoklmlepaaGreatDoorOwn26
set_option linter.all false
open Nat renaming pow_le_pow_right->zA,lt_of_lt_of_le->zB,lt_of_le_of_lt->zC,testBit_and->zD,eq_of_testBit_eq->zE,testBit_lt_two_pow->zF,or_lt_two_pow->zG,div_eq_of_lt->zI,zero_testBit->zK,and_le_left->zL,min_eq_left->zM
open Int renaming toNat_natCast->zH
namespace Go.Own
def top:IntKind->Nat
 | .u8=>8
 | .u32=>32
 | .u64=>64
 | .i64=>63
 |_=>0
theorem Ams(k:IntKind):top k<=k.bits:=by cases k<;>decide
theorem Aey{k:IntKind}{n:Nat}(h:n<2^top k):k.wrap (n:Int)=n:=by
 cases k<;>simp only[top]at h<;>simp only[IntKind.wrap,IntKind.bits,IntKind.signed]<;>simp<;>omega
theorem Aep{k:IntKind}{n:Nat}(h:n<2^top k):(BitVec.ofInt k.bits (n:Int)).toNat=n:=by
 have h2:n<2^k.bits:=zB h (zA (by decide) (Ams k));have e:BitVec.ofInt k.bits (n:Int)=BitVec.ofNat k.bits n:=by rw[BitVec.ofInt_natCast]
 rw[e,BitVec.toNat_ofNat,Nat.mod_eq_of_lt h2]
theorem Agj{k:IntKind}{a b:Nat}(ha:a<2^top k)(hb:b<2^top k):bAnd k (a:Int) (b:Int)=((a &&& b:Nat):Int):=by
 unfold bAnd;rw[BitVec.toNat_and,Aep ha,Aep hb];exact Aey (zC zL ha)
theorem Alc{k:IntKind}{a b:Nat}(ha:a<2^top k)(hb:b<2^top k):bOr k (a:Int) (b:Int)=((a ||| b:Nat):Int):=by
 unfold bOr;rw[BitVec.toNat_or,Aep ha,Aep hb];exact Aey (zG ha hb)
theorem Bet{k:IntKind}{a b:Nat}(ha:a<2^top k)(hb:b<2^top k):bXor k (a:Int) (b:Int)=((a ^^^ b:Nat):Int):=by
 unfold bXor;rw[BitVec.toNat_xor,Aep ha,Aep hb];exact Aey (Nat.xor_lt_two_pow ha hb)
def Ako(a b:Nat):Nat:=a &&& (a ^^^ b)
theorem Agx{a b i:Nat}:(Ako a b).testBit i=(a.testBit i&&!b.testBit i):=by
 unfold Ako;rw[zD,Nat.testBit_xor];cases a.testBit i<;>cases b.testBit i<;>rfl
theorem Aqp{a b:Nat}:Ako a b<=a:=zL
theorem Ag6{k:IntKind}{a b:Nat}(ha:a<2^top k)(hb:b<2^top k):Aab k (a:Int) (b:Int)=((Ako a b:Nat):Int):=by
 unfold Aab;have:(BitVec.ofInt k.bits (a:Int) &&& ~~~BitVec.ofInt k.bits (b:Int)).toNat=Ako a b:=by
  apply zE;intro i;rw[Agx,BitVec.toNat_and,zD,Aep ha,BitVec.testBit_toNat,BitVec.getLsbD_not,<-BitVec.testBit_toNat,Aep hb];by_cases hi:i<k.bits
  .simp [hi]
  .have:a.testBit i=false:=zF (zB ha (zA (by decide) (Nat.le_trans (Ams k) (by omega))));simp[hi,this]
 rw[this];exact Aey (zC Aqp ha)
theorem Aex{k:IntKind}{a i:Nat}(ha:a<2^top k):shrw k (a:Int) (i:Int)=((a / 2^i:Nat):Int):=by
 unfold shrw;rw[zH];have e:((2:Int)^min i k.bits)=((2^min i k.bits:Nat):Int):=by simp
 rw[e,Int.fdiv_eq_ediv_of_nonneg _ (Int.natCast_nonneg _),<-Int.natCast_ediv];congr 1;by_cases h:i<=k.bits
 .rw [zM h]
 .have h2:a<2^k.bits:=zB ha (zA (by decide) (Ams k));rw[Nat.min_eq_right (by omega),zI h2,zI (zB h2 (zA (by decide) (by omega)))]
theorem Ay7{k:IntKind}{i:Nat}(hi:i<top k):shlw k 1 (i:Int)=((2^i:Nat):Int):=by
 unfold shlw;have h2:=Ams k;rw[zH,zM (by omega),Int.one_mul];have e:((2:Int)^i)=((2^i:Nat):Int):=by simp
 rw[e];exact Aey (Nat.pow_lt_pow_right (by decide) hi)
theorem Bh3{k:IntKind}{a i:Nat}(ha:a<2^top k)(hk:0<top k):bAnd k (shrw k (a:Int) (i:Int)) 1=if a.testBit i then 1 else 0:=by
 rw[Aex ha];have h1:(1:Nat)<2^top k:=Nat.one_lt_two_pow (by omega);have:=Agj (k:=k) (a:=a / 2^i) (b:=1) (zC (Nat.div_le_self _ _) ha) h1;rw[show((1:Nat):Int)=1 from rfl]at this;rw[this,Nat.and_one_is_mod,Nat.testBit_eq_decide_div_mod_eq];by_cases h:a / 2^i%2=1
 .simp [h]
 .have:a / 2^i%2=0:=by omega
  simp[this]
theorem Ap8{x:Int}(h:okI .u8 x):0<=x/\x<256:=by
 have h1:=h.1;have h2:=h.2;have e1:IntKind.min .u8=0:=rfl;have e2:IntKind.max .u8=255:=rfl;omega
theorem Agz{a b:Nat}:a &&& b=a↔∀i,a.testBit i=true->b.testBit i=true:=by
 constructor
 .intro h i hi;have:=congrArg (·.testBit i) h;simp only[zD,hi,Bool.true_and]at this;exact this
 .intro h;apply zE;intro i;rw[zD];cases ha:a.testBit i with
  |false=>rfl
  |true=>rw[h i ha];rfl
theorem Axq{a n:Nat}:a<2^n↔∀i,a.testBit i=true->i<n:=by
 constructor
 .intro h i hi
  false_or_by_contra
  rw[zF (zB h (zA (by decide) (by omega)))]at hi;cases hi
 .intro h;apply Nat.lt_pow_two_of_testBit;intro i hi;cases ha:a.testBit i with
  |false=>rfl
  |true=>have:=h i ha;omega
theorem Bne{a b n:Nat}:a ||| b<2^n↔a<2^n/\b<2^n:=by
 constructor
 .intro h;exact⟨zC Nat.left_le_or h,zC Nat.right_le_or h⟩
 .exact fun h=>zG h.1 h.2
theorem Bbg{a b:Nat}:Ako a b=0↔∀i,a.testBit i=true->b.testBit i=true:=by
 constructor
 .intro h i hi;have:=congrArg (·.testBit i) h;simp only[Agx,hi,zK,Bool.true_and]at this;simpa using this
 .intro h;apply zE;intro i;rw[Agx,zK];cases ha:a.testBit i with
  |false=>rfl
  |true=>rw[h i ha];rfl
theorem Bf9{a n:Nat}:a / 2^n=0↔a<2^n:=by
 rw[Nat.div_eq_zero_iff];have:0<2^n:=Nat.pos_of_ne_zero (by simp);omega
end Go.Own
