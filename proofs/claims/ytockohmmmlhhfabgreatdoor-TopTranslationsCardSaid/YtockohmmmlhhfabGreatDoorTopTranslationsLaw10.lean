/- What the functions answer. No conditions. -/
import Derived.Test.YtockohmmmlhhfabGreatDoorTopTranslationsLaw4
import Derived.Test.YtockohmmmlhhfabGreatDoorTopTranslationsLaw8
set_option linter.all false
namespace Go.Own
def bl8 (m:Nat):Nat:=if m=0 then 0 else Nat.log2 m+1
def Afo (x r:Nat):Prop:=x<2^r/\2^r<=2*x+1
theorem Afo.shift {x k r:Nat} (hx:2^k<=x) (h:Afo (x / 2^k) r):Afo x (r+k):=by
 have hk:0<2^k:=Nat.pow_pos (by omega);have hq:1<=x / 2^k:=(Nat.le_div_iff_mul_le hk).2 (by omega);obtain ⟨h1,h2⟩:=h;have hr:1<=r:=by
  rcases Nat.eq_zero_or_pos r with h | h
  ·subst h;simp at h1;omega
  ·exact h
 obtain ⟨s,rfl⟩:∃ s,r=s+1:=⟨r-1,by omega⟩
 have e:2^(s+1)=2*2^s:=by rw [Nat.pow_succ];omega
 have hd:=Nat.div_add_mod x (2^k);have hm:=Nat.mod_lt x hk;have e2:2^(s+1+k)=2*(2^k*2^s):=by rw [Nat.pow_add,e,Nat.mul_assoc,Nat.mul_comm (2^s)]
 have h3:2^s<=x / 2^k:=by omega
 have h4:2^k*2^s<=2^k*(x / 2^k):=Nat.mul_le_mul_left _ h3;have h5:x / 2^k+1<=2*2^s:=by omega
 have h6:2^k*(x / 2^k+1)<=2^k*(2*2^s):=Nat.mul_le_mul_left _ h5;have e3:2^k*(2*2^s)=2*(2^k*2^s):=by rw [Nat.mul_left_comm]
 have e4:2^k*(x / 2^k+1)=2^k*(x / 2^k)+2^k:=by rw [Nat.mul_add,Nat.mul_one]
 unfold Afo;rw [e2];omega
namespace q63_
theorem one {x y:Nat} {φ:Int->Prop} (hx:x<256) (hy:y<=56) (h:∀ r,Afo x r->r<=8->φ ((y+r:Nat):Int)):L1 x y φ:=by
 apply L1_step;rw [Ag0 (k:=.u8) (n:=x) (by simpa [top] using hx)];refine ⟨UInt8.ofNat (bl8 x),⟨by omega,?_⟩,?_⟩
 ·rw [Int.toNat_natCast];clear h hy
  revert x
  decide +kernel
 ·have h8:bl8 x<=8/\Afo x (bl8 x):=by
   clear h hy;unfold Afo
   revert x
   decide +kernel
  have e:u8i (UInt8.ofNat (bl8 x))=(bl8 x:Int):=by
   unfold u8i;rw [UInt8.toNat_ofNat'];have:=h8.1;omega
  rw [e];have h9:=h8.1;have e1:IntKind.wrap .i64 ((bl8 x:Nat):Int)=((bl8 x:Nat):Int):=Abw (by omega) (by omega);have e2:IntKind.wrap .i64 (((y:Nat):Int)+((bl8 x:Nat):Int))=((y+bl8 x:Nat):Int):=by rw [Abw (by omega) (by omega)];omega
  rw [e1,e2];exact h _ h8.2 h8.1
theorem spec {x:Nat} (hx:x<2^63):∃ r:Nat,C x r/\Afo x r/\r<=64:=by
 have two:∀ (x y:Nat) (φ:Int->Prop),x<2^16->y<=48->(∀ r,Afo x r->r<=16->φ ((y+r:Nat):Int))->L2 x y φ:=fun x y φ hx hy h=>by
  apply L2_step;by_cases h8:256<=x
  ·rw [if_pos (by omega)];have:=Alp (k:=.u64) (a:=x) (i:=8) (by simp only [top];omega);rw [show ((8:Nat):Int)=8 from rfl] at this;rw [this];have e2:IntKind.wrap .i64 (((y:Nat):Int)+8)=((y+8:Nat):Int):=by rw [Abw (by omega) (by omega)];omega
   rw [e2];exact one (by omega) (by omega) fun r h1 h2=>by
    have:=h (r+8) (h1.shift (by omega)) (by omega)
    rwa [show y+(r+8)=y+8+r by omega] at this
  ·rw [if_neg (by omega)];exact one (by omega) (by omega) fun r h1 h2=>h r h1 (by omega)
 have three:∀ (x y:Nat) (φ:Int->Prop),x<2^32->y<=32->(∀ r,Afo x r->r<=32->φ ((y+r:Nat):Int))->L3 x y φ:=fun x y φ hx hy h=>by
  apply L3_step;by_cases h8:65536<=x
  ·rw [if_pos (by omega)];have:=Alp (k:=.u64) (a:=x) (i:=16) (by simp only [top];omega);rw [show ((16:Nat):Int)=16 from rfl] at this;rw [this];have e2:IntKind.wrap .i64 (((y:Nat):Int)+16)=((y+16:Nat):Int):=by rw [Abw (by omega) (by omega)];omega
   rw [e2];exact two _ _ _ (by omega) (by omega) fun r h1 h2=>by
    have:=h (r+16) (h1.shift (by omega)) (by omega)
    rwa [show y+(r+16)=y+16+r by omega] at this
  ·rw [if_neg (by omega)];exact two _ _ _ (by omega) (by omega) fun r h1 h2=>h r h1 (by omega)
 obtain ⟨r,⟨s,rfl,h1,h3⟩,h2⟩:=enter x (fun r=>∃ s:Nat,r=(s:Int)/\Afo x s/\s<=64) (by
  by_cases h8:4294967296<=x
  ·rw [if_pos (by omega)];have:=Alp (k:=.u64) (a:=x) (i:=32) (by simp only [top];omega);rw [show ((32:Nat):Int)=32 from rfl] at this;rw [this];exact three _ 32 _ (by omega) (by omega) fun r h1 h2=>⟨32+r,rfl,by have:=h1.shift (x:=x) (k:=32) (by omega);rwa [Nat.add_comm] at this,by omega⟩
  ·rw [if_neg (by omega)]
   exact three _ 0 _ (by omega) (by omega) fun r h1 h2=>⟨r,by omega,h1,by omega⟩)
 exact ⟨s,h2,h1,h3⟩
end q63_
theorem q78_.spec {x:Nat} (hx:x<2^63):∃ r:Nat,q78_.C x r/\Afo x r/\r<=64:=by
 obtain ⟨s,c,h1,h3⟩:=q63_.spec hx;obtain ⟨r,e,h2⟩:=q78_.enter x (fun r=>r=(s:Int)) ⟨_,c,rfl⟩;subst e;exact ⟨s,h2,h1,h3⟩
end Go.Own
