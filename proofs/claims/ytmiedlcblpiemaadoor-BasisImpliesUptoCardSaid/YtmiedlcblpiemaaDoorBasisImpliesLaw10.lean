/- What the functions that the law reaches answer. No conditions. -/
import Derived.Test.YtmiedlcblpiemaaDoorBasisImpliesLaw5
import Derived.Test.YtmiedlcblpiemaaDoorBasisImpliesLaw7
import Derived.Test.YtmiedlcblpiemaaDoorBasisImpliesLaw3
set_option linter.all false
namespace Go.Own
def pop8 (m:Nat):Nat:=((List.range 8).filter fun i=>m.testBit i).length
theorem filter_shift {n k:Nat}:((List.range 8).map (·+k)).filter (fun i=>n.testBit i)=((List.range 8).filter fun i=>(n / 2^k % 256).testBit i).map (·+k):=by
 rw [List.filter_map]
 congr 1
 refine List.filter_congr fun i hi=>?_
 have hi:=List.mem_range.1 hi
 simp only [Function.comp]
 rw [show (256:Nat)=2^8 from rfl,Nat.testBit_mod_two_pow,Nat.testBit_div_two_pow]
 simp [hi]
theorem szN_bytes (n:Nat):szN n=pop8 (n % 256)+pop8 (n / 2^8 % 256)+pop8 (n / 2^16 % 256)+pop8 (n / 2^24 % 256):=by
 have e:List.range 32=(List.range 8).map (·+0)++(List.range 8).map (·+8)++(List.range 8).map (·+16)++(List.range 8).map (·+24):=by decide
 unfold szN bitsOf pop8
 rw [e,List.filter_append,List.filter_append,List.filter_append,filter_shift,filter_shift,filter_shift,filter_shift]
 simp only [List.length_append,List.length_map,Nat.pow_zero,Nat.div_one]
theorem and255 (a:Nat):a &&& 255=a % 256:=Nat.and_two_pow_sub_one_eq_mod a 8
theorem pop8_le {m:Nat}:pop8 m≤8:=by
 unfold pop8
 exact Nat.le_trans (List.length_filter_le _ _) (by simp)
theorem u8i_pop {m:Nat}:u8i (UInt8.ofNat (pop8 m))=(pop8 m:Int):=by
 unfold u8i
 rw [UInt8.toNat_ofNat']
 have:=pop8_le (m:=m)
 omega
theorem math_bits_OnesCount32.spec {n:Nat} (hn:n<2^32):math_bits_OnesCount32.C n (szN n:Int):=by
 obtain ⟨r,h1,h2⟩:=math_bits_OnesCount32.enter n (fun r=>r=(szN n:Int)) (by
  have ht:n<2^top .u32:=by simpa [top] using hn
  have e24:=shrw_nat (k:=.u32) (a:=n) (i:=24) ht
  have e16:=shrw_nat (k:=.u32) (a:=n) (i:=16) ht
  have e8:=shrw_nat (k:=.u32) (a:=n) (i:=8) ht
  rw [show ((24:Nat):Int)=24 from rfl] at e24
  rw [show ((16:Nat):Int)=16 from rfl] at e16
  rw [show ((8:Nat):Int)=8 from rfl] at e8
  have a255:∀ a:Nat,a<2^32→bAnd .u32 (a:Int) 255=((a % 256:Nat):Int):=fun a ha=>by
   have:=bAnd_nat (k:=.u32) (a:=a) (b:=255) (by simpa [top] using ha) (by simp only [top];omega)
   rw [show ((255:Nat):Int)=255 from rfl] at this
   rw [this,and255]
  rw [e24,e16,e8,a255 _ (Nat.lt_of_le_of_lt (Nat.div_le_self _ _) hn),a255 _ (Nat.lt_of_le_of_lt (Nat.div_le_self _ _) hn),a255 _ hn]
  have h24:n / 2^24<256:=by omega
  have em:n / 2^24=n / 2^24 % 256:=(Nat.mod_eq_of_lt h24).symm
  have hs:=szN_bytes n
  rw [em]
  have m1:n / 2^24 % 256<256:=Nat.mod_lt _ (by omega)
  have m2:n / 2^16 % 256<256:=Nat.mod_lt _ (by omega)
  have m3:n / 2^8 % 256<256:=Nat.mod_lt _ (by omega)
  have m4:n % 256<256:=Nat.mod_lt _ (by omega)
  generalize n / 2^24 % 256=q1 at *
  generalize n / 2^16 % 256=q2 at *
  generalize n / 2^8 % 256=q3 at *
  generalize n % 256=q4 at *
  clear hn ht e24 e16 e8 a255 h24 em
  refine ⟨UInt8.ofNat (pop8 q1),⟨by omega,?_⟩,UInt8.ofNat (pop8 q2),⟨by omega,?_⟩,UInt8.ofNat (pop8 q3),⟨by omega,?_⟩,UInt8.ofNat (pop8 q4),⟨by omega,?_⟩,?_⟩
  ·rw [Int.toNat_natCast]
   clear hs m2 m3 m4
   revert q1
   decide +kernel
  ·rw [Int.toNat_natCast]
   clear hs m1 m3 m4
   revert q2
   decide +kernel
  ·rw [Int.toNat_natCast]
   clear hs m1 m2 m4
   revert q3
   decide +kernel
  ·rw [Int.toNat_natCast]
   clear hs m1 m2 m3
   revert q4
   decide +kernel
  ·rw [u8i_pop,u8i_pop,u8i_pop,u8i_pop]
   have b1:=pop8_le (m:=q1)
   have b2:=pop8_le (m:=q2)
   have b3:=pop8_le (m:=q3)
   have b4:=pop8_le (m:=q4)
   have w8:∀ a b:Nat,a+b<256→IntKind.wrap .u8 ((a:Int)+(b:Int))=((a+b:Nat):Int):=fun a b h=>by
    rw [show (a:Int)+(b:Int)=((a+b:Nat):Int) by omega]
    exact wrap_top (k:=.u8) (by simpa [top] using h)
   rw [w8 _ _ (by omega),w8 _ _ (by omega),w8 _ _ (by omega),hs]
   have:pop8 q1+pop8 q2+pop8 q3+pop8 q4=pop8 q4+pop8 q3+pop8 q2+pop8 q1:=by omega
   rw [this]
   exact wrap_id (by omega) (by omega))
 rw [← h1];exact h2
theorem attrset_Size.spec {x:Int} (hx:U32 x):attrset_Size.C x (szN (sN x):Int):=by
 have:=math_bits_OnesCount32.spec hx.lt
 rw [← hx.eq] at this
 obtain ⟨r,h1,h2⟩:=attrset_Size.enter x (fun r=>r=(szN (sN x):Int)) ⟨_,this,rfl⟩
 rw [← h1];exact h2
end Go.Own
namespace Go.Own
namespace drossref02_Has
end drossref02_Has
end Go.Own
namespace Go.Own
namespace drossref02_Full
theorem loop {k:Nat} {φ:Int→Prop} (h:φ (fullN k)):∀ (m i:Nat),i+m=min k 32→L1 k ((2^i-1:Nat):Int) i φ
 | 0,i,hi=>by
  apply L1_step
  have e:((2^i-1:Nat):Int)=(fullN k:Int):=by unfold fullN;rw [← hi,Nat.add_zero]
  rw [e]
  split
  ·rw [if_neg (by omega)];exact h
  ·exact h
 | m+1,i,hi=>by
  apply L1_step
  rw [if_pos (by omega),if_pos (by omega)]
  refine ⟨by omega,?_⟩
  have hp:2^(i+1)≤2^32:=Nat.pow_le_pow_right (by decide) (by omega)
  have h2:0<2^i:=Nat.pos_of_ne_zero (by simp)
  rw [Nat.pow_succ] at hp
  rw [shl1_nat (k:=.u32) (by simp only [top];omega),bOr_nat (k:=.u32) (by simp only [top];omega) (by simp only [top];omega),wrap_succ (by omega)]
  have e:(2^i-1) ||| 2^i=2^(i+1)-1:=by
   apply Nat.eq_of_testBit_eq
   intro j
   rw [Nat.testBit_or,Nat.testBit_two_pow_sub_one,Nat.testBit_two_pow,Nat.testBit_two_pow_sub_one]
   by_cases h1:j<i
   ·have:j<i+1:=by omega
    simp [h1,this]
   ·by_cases h3:i=j
    ·subst h3;simp
    ·have:¬ j<i+1:=by omega
     simp [h1,h3,this]
  rw [e]
  exact loop h m (i+1) (by omega)
theorem spec {k:Nat}:C k (fullN k):=by
 obtain ⟨r,h1,h2⟩:=enter k (fun r=>r=(fullN k:Int)) (loop (φ:=fun r=>r=(fullN k:Int)) rfl (min k 32) 0 (by omega))
 rw [← h1];exact h2
end drossref02_Full
end Go.Own
namespace Go.Own
end Go.Own
namespace Go.Own
end Go.Own
namespace Go.Own
def FdOK (l:List api_FD):Prop:=∀ d∈l,U32 d.Lhs∧U32 d.Rhs
def inU (n:Nat) (l r:Int):Bool:=decide (sN l<2^n)&&decide (sN r<2^n)
theorem in_or {n:Nat} {l r:Int} (hl:U32 l) (hr:U32 r):(shrw .u32 (bOr .u32 l r) (n:Int)=0)↔inU n l r=true:=by
 rw [hl.eq,hr.eq,bOr_nat hl.top hr.top,shrw_nat (Nat.or_lt_two_pow hl.top hr.top)]
 unfold inU
 rw [Bool.and_eq_true,decide_eq_true_iff,decide_eq_true_iff]
 have e1:sN (sN l:Int)=sN l:=by unfold sN;omega
 have e2:sN (sN r:Int)=sN r:=by unfold sN;omega
 rw [e1,e2,← or_lt,← div_zero]
 omega
def fdsE (n:Int) (l:List api_FD):Int:=if n<0∨16<n then 7 else if 64<l.length then 3 else if (l.all fun d=>inU n.toNat d.Lhs d.Rhs)=true then 0 else 1
theorem all_goal {α:Type} {l:List α} {p:α→Bool} {L:Int→Prop} {φ:Int→Prop} (stop:φ 0→L (l.length:Int))
  (step:∀ (k:Nat) a,l[k]? = some a→k<l.length→(if p a=true then L ((k+1:Nat):Int) else φ 1)→L k) (h:φ (if l.all p=true then 0 else 1)):L 0:=
 all_loop (l:=l) (p:=p) (L:=L) (φ:=fun b=>φ (if b=true then 0 else 1)) (fun h=>stop (by simpa using h)) (fun k a ha hk h=>step k a ha hk (by simpa using h)) h
theorem closure_Valid.spec {n:Int} {l:List api_FD} (hl:FdOK l):closure_Valid.C n l (fdsE n l):=by
 obtain ⟨r,h1,h2⟩:=closure_Valid.enter n l (fun r=>r=fdsE n l) (by
  by_cases a:n<0∨16<n
  ·have e:fdsE n l=7:=if_pos a
   rw [e]
   by_cases b:n<0
   ·rw [if_pos b]
   ·rw [if_neg b,if_pos (by omega)]
  ·rw [if_neg (by omega),if_neg (by omega)]
   by_cases b:64<l.length
   ·have e:fdsE n l=3:=by unfold fdsE;rw [if_neg a,if_pos b]
    rw [e,if_pos (by omega)]
   ·have e:fdsE n l=if (l.all fun d=>inU n.toNat d.Lhs d.Rhs)=true then 0 else 1:=by unfold fdsE;rw [if_neg a,if_neg b]
    rw [e,if_neg (by omega)]
    ·obtain ⟨m,rfl⟩:∃ m:Nat,n=m:=⟨n.toNat,by omega⟩
     refine all_goal (l:=l) (p:=fun d=>inU m d.Lhs d.Rhs) (L:=fun i=>closure_Valid.L1 m l i _) (φ:=fun r=>r=_) ?_ ?_ rfl
     ·intro h;apply closure_Valid.L1_step;rw [if_neg (by omega)];exact h
     ·intro k d hd hk h
      apply closure_Valid.L1_step
      rw [if_pos (by omega)]
      refine ⟨d,lget_of hd,by omega,?_⟩
      have hd':=hl d (List.mem_of_getElem? hd)
      have e:=in_or (n:=m) hd'.1 hd'.2
      rw [wrap_succ (by omega)]
      split
      ·rename_i hh;rw [if_pos (e.1 hh)] at h;exact h
      ·rename_i hh;rw [if_neg (fun h3=>hh (e.2 h3))] at h;exact h)
 rw [← h1];exact h2
theorem fdsE_n {n:Int} {l:List api_FD} (h:fdsE n l=0):0≤n∧n≤16:=by
 unfold fdsE at h
 split at h
 ·cases h
 ·omega
end Go.Own
namespace Go.Own
def MvdOK (l:List api_MVD):Prop:=∀ d∈l,U32 d.Lhs∧U32 d.Rhs
def basE (n:Int) (l:List api_FD) (m:List api_MVD):Int:=if fdsE n l=0 then (if 64<m.length then 3 else if (m.all fun d=>inU n.toNat d.Lhs d.Rhs)=true then 0 else 1) else fdsE n l
theorem basis_Valid.spec {n:Int} {l:List api_FD} {m:List api_MVD} (hl:FdOK l) (hm:MvdOK m):basis_Valid.C n l m (basE n l m):=by
 obtain ⟨r,h1,h2⟩:=basis_Valid.enter n l m (fun r=>r=basE n l m) (by
  refine ⟨_,closure_Valid.spec hl,?_⟩
  unfold basE
  split
  ·rename_i h0
   have hn:=fdsE_n h0
   split
   ·rw [if_pos (by omega)]
   ·rw [if_neg (by omega)]
    obtain ⟨q,rfl⟩:∃ q:Nat,n=q:=⟨n.toNat,by omega⟩
    refine all_goal (l:=m) (p:=fun d=>inU q d.Lhs d.Rhs) (L:=fun i=>basis_Valid.L1 q m i _) (φ:=fun r=>r=_) ?_ ?_ rfl
    ·intro h;apply basis_Valid.L1_step;rw [if_neg (by omega)];exact h
    ·intro k d hd hk h
     apply basis_Valid.L1_step
     rw [if_pos (by omega)]
     refine ⟨d,lget_of hd,by omega,?_⟩
     have hd':=hm d (List.mem_of_getElem? hd)
     have e:=in_or (n:=q) hd'.1 hd'.2
     rw [wrap_succ (by omega)]
     split
     ·rename_i hh;rw [if_pos (e.1 hh)] at h;exact h
     ·rename_i hh;rw [if_neg (fun h3=>hh (e.2 h3))] at h;exact h
  ·rfl)
 rw [← h1];exact h2
end Go.Own
namespace Go.Own
end Go.Own
namespace Go.Own
end Go.Own
namespace Go.Own
namespace attrset_Members
theorem loop {φ:List Int→Prop}:∀ (n:Nat) (acc:List Int),n<2^32→acc.length+(bitsOf n).length≤1000→φ (acc++(bitsOf n).map fun (i:Nat)=>(i:Int))→L1 n acc φ:=by
 intro n
 induction n using Nat.strongRecOn with
 | _ n ih=>
  intro acc hn hl h
  apply L1_step
  by_cases h0:n=0
  ·subst h0
   rw [bitsOf_zero] at h
   rw [if_pos (by omega)];simpa using h
  ·rw [if_neg (by omega)]
   rw [bitsOf_cons h0 hn] at hl h
   simp only [List.length_cons] at hl
   refine ⟨by omega,by omega,?_⟩
   have e1:IntKind.wrap .u32 ((n:Int)-1)=((n-1:Nat):Int):=by
    have:(n:Int)-1=((n-1:Nat):Int):=by omega
    rw [this]
    exact wrap_top (k:=.u32) (by simp only [top];omega)
   rw [e1,bAnd_nat (k:=.u32) (by simpa [top] using hn) (by simp only [top];omega)]
   refine ih _ (clear_lt h0) _ (Nat.lt_of_le_of_lt Nat.and_le_left hn) (by rw [List.length_append,List.length_singleton];omega) ?_
   have e2:tz32 (n:Int)=((lowest n 32 0:Nat):Int):=by unfold tz32;rw [Int.toNat_natCast]
   rw [e2]
   simpa using h
theorem spec {n:Nat} (hn:n<2^32):C n ((bitsOf n).map fun (i:Nat)=>(i:Int)):=by
 obtain ⟨r,h1,h2⟩:=enter n (fun r=>r=(bitsOf n).map fun (i:Nat)=>(i:Int)) (loop n [] hn (by have:=bitsOf_len (n:=n);simp;omega) (by simp))
 rw [← h1];exact h2
end attrset_Members
end Go.Own
namespace Go.Own
theorem full_shl {n:Int} (h0:0≤n) (h1:n≤16):IntKind.wrap .u32 ((shlw .u32 1 n)-1)=(fullN n.toNat:Int):=by
 obtain ⟨m,rfl⟩:∃ m:Nat,n=m:=⟨n.toNat,by omega⟩
 rw [shl1_nat (by simp only [top];omega)]
 have hp:2^m≤2^16:=Nat.pow_le_pow_right (by omega) (by omega)
 have hq:0<2^m:=Nat.pow_pos (by omega)
 have e:fullN (m:Int).toNat=2^m-1:=by unfold fullN;rw [Int.toNat_natCast,Nat.min_eq_left (by omega)]
 rw [e]
 have:((2^m:Nat):Int)-1=((2^m-1:Nat):Int):=by omega
 rw [this]
 generalize 2^m-1=q at *
 have:q<65536:=by omega
 simp only [IntKind.wrap]
 simp [IntKind.bits,IntKind.signed]
 omega
def compF (n:Int) (d:api_MVD):api_MVD:=if n<0∨16<n then ⟨0,0⟩ else ⟨d.Lhs,bAndNot .u32 (fullN n.toNat:Int) (bOr .u32 d.Lhs d.Rhs)⟩
theorem basis_Complement.spec {n:Int} {d:api_MVD}:basis_Complement.C n d (compF n d):=by
 obtain ⟨r,h1,h2⟩:=basis_Complement.enter n d (fun r=>r=compF n d) (by
  by_cases a:n<0∨16<n
  ·have e:compF n d=⟨0,0⟩:=if_pos a
   rw [e]
   by_cases b:n<0
   ·rw [if_pos b]
   ·rw [if_neg b,if_pos (by omega)]
  ·rw [if_neg (by omega),if_neg (by omega)]
   refine ⟨by omega,?_⟩
   rw [full_shl (by omega) (by omega)]
   unfold compF;rw [if_neg a])
 rw [← h1];exact h2
end Go.Own
