/- What the functions answer. No conditions. -/
import Derived.Test.YtmiedlcblpiemaaGreatDoorOwn24
import Derived.Test.YtmiedlcblpiemaaGreatDoorOwn32
set_option linter.all false
open Nat renaming pow_le_pow_right->zA,lt_of_lt_of_le->zB,lt_of_le_of_lt->zC,testBit_and->zD,testBit_lt_two_pow->zE,eq_of_testBit_eq->zF,or_lt_two_pow->zG,div_eq_of_lt->zI,and_le_left->zK,min_eq_left->zL
open Int renaming toNat_natCast->zH
namespace Go.Own
def top:IntKind->Nat
 | .u8=>8
 | .u32=>32
 | .u64=>64
 | .i64=>63
 |_=>0
theorem Anb(k:IntKind):top k<=k.bits:=by cases k<;>decide
theorem Acz{k:IntKind}{n:Nat}(h:n<2^top k):k.wrap (n:Int)=n:=by
 cases k<;>simp only[top]at h<;>simp only[IntKind.wrap,IntKind.bits,IntKind.signed]<;>simp<;>omega
theorem Ae4{k:IntKind}{n:Nat}(h:n<2^top k):(BitVec.ofInt k.bits (n:Int)).toNat=n:=by
 have h2:n<2^k.bits:=zB h (zA (by decide) (Anb k));have e:BitVec.ofInt k.bits (n:Int)=BitVec.ofNat k.bits n:=by rw[BitVec.ofInt_natCast]
 rw[e,BitVec.toNat_ofNat,Nat.mod_eq_of_lt h2]
theorem Ajr{k:IntKind}{a b:Nat}(ha:a<2^top k)(hb:b<2^top k):bAnd k (a:Int) (b:Int)=((a &&& b:Nat):Int):=by
 unfold bAnd;rw[BitVec.toNat_and,Ae4 ha,Ae4 hb];exact Acz (zC zK ha)
theorem Aln{k:IntKind}{a b:Nat}(ha:a<2^top k)(hb:b<2^top k):bOr k (a:Int) (b:Int)=((a ||| b:Nat):Int):=by
 unfold bOr;rw[BitVec.toNat_or,Ae4 ha,Ae4 hb];exact Acz (zG ha hb)
theorem Bfc{k:IntKind}{a b:Nat}(ha:a<2^top k)(hb:b<2^top k):bXor k (a:Int) (b:Int)=((a ^^^ b:Nat):Int):=by
 unfold bXor;rw[BitVec.toNat_xor,Ae4 ha,Ae4 hb];exact Acz (Nat.xor_lt_two_pow ha hb)
def Acf(a b:Nat):Nat:=a &&& (a ^^^ b)
theorem Ah3{a b i:Nat}:(Acf a b).testBit i=(a.testBit i&&!b.testBit i):=by
 unfold Acf;rw[zD,Nat.testBit_xor];cases a.testBit i<;>cases b.testBit i<;>rfl
theorem Aic{a b:Nat}:Acf a b<=a:=zK
theorem Ald{k:IntKind}{a b:Nat}(ha:a<2^top k)(hb:b<2^top k):Alm k (a:Int) (b:Int)=((Acf a b:Nat):Int):=by
 unfold Alm;have:(BitVec.ofInt k.bits (a:Int) &&& ~~~BitVec.ofInt k.bits (b:Int)).toNat=Acf a b:=by
  apply zF;intro i;rw[Ah3,BitVec.toNat_and,zD,Ae4 ha,BitVec.testBit_toNat,BitVec.getLsbD_not,<-BitVec.testBit_toNat,Ae4 hb];by_cases hi:i<k.bits
  .simp [hi]
  .have:a.testBit i=false:=zE (zB ha (zA (by decide) (Nat.le_trans (Anb k) (by omega))));simp[hi,this]
 rw[this];exact Acz (zC Aic ha)
theorem Adj{k:IntKind}{a i:Nat}(ha:a<2^top k):shrw k (a:Int) (i:Int)=((a / 2^i:Nat):Int):=by
 unfold shrw;rw[zH];have e:((2:Int)^min i k.bits)=((2^min i k.bits:Nat):Int):=by simp
 rw[e,Int.fdiv_eq_ediv_of_nonneg _ (Int.natCast_nonneg _),<-Int.natCast_ediv];congr 1;by_cases h:i<=k.bits
 .rw [zL h]
 .have h2:a<2^k.bits:=zB ha (zA (by decide) (Anb k));rw[Nat.min_eq_right (by omega),zI h2,zI (zB h2 (zA (by decide) (by omega)))]
theorem An8{k:IntKind}{i:Nat}(hi:i<top k):shlw k 1 (i:Int)=((2^i:Nat):Int):=by
 unfold shlw;have h2:=Anb k;rw[zH,zL (by omega),Int.one_mul];have e:((2:Int)^i)=((2^i:Nat):Int):=by simp
 rw[e];exact Acz (Nat.pow_lt_pow_right (by decide) hi)
theorem Bhe{k:IntKind}{a i:Nat}(ha:a<2^top k)(hk:0<top k):bAnd k (shrw k (a:Int) (i:Int)) 1=if a.testBit i then 1 else 0:=by
 rw[Adj ha];have h1:(1:Nat)<2^top k:=Nat.one_lt_two_pow (by omega);have:=Ajr (k:=k) (a:=a / 2^i) (b:=1) (zC (Nat.div_le_self _ _) ha) h1;rw[show((1:Nat):Int)=1 from rfl]at this;rw[this,Nat.and_one_is_mod,Nat.testBit_eq_decide_div_mod_eq];by_cases h:a / 2^i%2=1
 .simp [h]
 .have:a / 2^i%2=0:=by omega
  simp[this]
theorem Am7{x:Int}(h:okI .u32 x):0<=x/\x<4294967296:=by
 have h1:=h.1;have h2:=h.2;have e1:IntKind.min .u32=0:=rfl;have e2:IntKind.max .u32=4294967295:=rfl;omega
theorem Bkh{x:Int}(h:okI .i64 x) : -9223372036854775808<=x/\x<9223372036854775808:=by
 have h1:=h.1;have h2:=h.2;have e1:IntKind.min .i64 = -9223372036854775808:=rfl;have e2:IntKind.max .i64=9223372036854775807:=rfl;omega
theorem Bjy{a b:Nat}:a &&& b=a↔∀i,a.testBit i=true->b.testBit i=true:=by
 constructor
 .intro h i hi;have:=congrArg (·.testBit i) h;simp only[zD,hi,Bool.true_and]at this;exact this
 .intro h;apply zF;intro i;rw[zD];cases ha:a.testBit i with
  |false=>rfl
  |true=>rw[h i ha];rfl
theorem Ayk{a n:Nat}:a<2^n↔∀i,a.testBit i=true->i<n:=by
 constructor
 .intro h i hi
  false_or_by_contra
  rw[zE (zB h (zA (by decide) (by omega)))]at hi;cases hi
 .intro h;apply Nat.lt_pow_two_of_testBit;intro i hi;cases ha:a.testBit i with
  |false=>rfl
  |true=>have:=h i ha;omega
theorem Aww{a b n:Nat}:a ||| b<2^n↔a<2^n/\b<2^n:=by
 constructor
 .intro h;exact⟨zC Nat.left_le_or h,zC Nat.right_le_or h⟩
 .exact fun h=>zG h.1 h.2
theorem Bfk{a n:Nat}:a / 2^n=0↔a<2^n:=by
 rw[Nat.div_eq_zero_iff];have:0<2^n:=Nat.pos_of_ne_zero (by simp);omega
end Go.Own
