/- What the functions that the law reaches answer. No conditions. -/
import Derived.Test.YtbemcminbfhakaaGreatDoorTopArmstrongLaw4
import Derived.Test.YtbemcminbfhakaaGreatDoorTopArmstrongLaw6
import Derived.Test.YtbemcminbfhakaaGreatDoorTopArmstrongLaw2
import Derived.Test.YtbemcminbfhakaaGreatDoorBase2
import Derived.Test.YtbemcminbfhakaaGreatDoorOwn25
set_option linter.all false
namespace Go.Own
namespace drossref02_Full
theorem loop {k:Nat} {φ:Int→Prop} (h:φ (fullN k)):∀ (m i:Nat),i+m=min k 32→L1 k ((2^i-1:Nat):Int) i φ
 | 0,i,hi=>by
  apply L1_step
  have e:((2^i-1:Nat):Int)=(fullN k:Int):=by unfold fullN;rw [← hi,Nat.add_zero]
  rw [e]
  split
  ·rw [if_neg (by omega)];exact h
  ·exact h
 | m+1,i,hi=>by
  apply L1_step
  rw [if_pos (by omega),if_pos (by omega)]
  refine ⟨by omega,?_⟩
  have hp:2^(i+1)≤2^32:=Nat.pow_le_pow_right (by decide) (by omega)
  have h2:0<2^i:=Nat.pos_of_ne_zero (by simp)
  rw [Nat.pow_succ] at hp
  rw [shl1_nat (k:=.u32) (by simp only [top];omega),bOr_nat (k:=.u32) (by simp only [top];omega) (by simp only [top];omega),wrap_succ (by omega)]
  have e:(2^i-1) ||| 2^i=2^(i+1)-1:=by
   apply Nat.eq_of_testBit_eq
   intro j
   rw [Nat.testBit_or,Nat.testBit_two_pow_sub_one,Nat.testBit_two_pow,Nat.testBit_two_pow_sub_one]
   by_cases h1:j<i
   ·have:j<i+1:=by omega
    simp [h1,this]
   ·by_cases h3:i=j
    ·subst h3;simp
    ·have:¬ j<i+1:=by omega
     simp [h1,h3,this]
  rw [e]
  exact loop h m (i+1) (by omega)
theorem spec {k:Nat}:C k (fullN k):=by
 obtain ⟨r,h1,h2⟩:=enter k (fun r=>r=(fullN k:Int)) (loop (φ:=fun r=>r=(fullN k:Int)) rfl (min k 32) 0 (by omega))
 rw [← h1];exact h2
end drossref02_Full
end Go.Own
namespace Go.Own
def FdOK (l:List api_FD):Prop:=∀ d∈l,U32 d.Lhs∧U32 d.Rhs
def inU (n:Nat) (l r:Int):Bool:=decide (sN l<2^n)&&decide (sN r<2^n)
theorem in_or {n:Nat} {l r:Int} (hl:U32 l) (hr:U32 r):(shrw .u32 (bOr .u32 l r) (n:Int)=0)↔inU n l r=true:=by
 rw [hl.eq,hr.eq,bOr_nat hl.top hr.top,shrw_nat (Nat.or_lt_two_pow hl.top hr.top)]
 unfold inU
 rw [Bool.and_eq_true,decide_eq_true_iff,decide_eq_true_iff]
 have e1:sN (sN l:Int)=sN l:=by unfold sN;omega
 have e2:sN (sN r:Int)=sN r:=by unfold sN;omega
 rw [e1,e2,← or_lt,← div_zero]
 omega
def fdsE (n:Int) (l:List api_FD):Int:=if n<0∨16<n then 7 else if 64<l.length then 3 else if (l.all fun d=>inU n.toNat d.Lhs d.Rhs)=true then 0 else 1
theorem all_goal {α:Type} {l:List α} {p:α→Bool} {L:Int→Prop} {φ:Int→Prop} (stop:φ 0→L (l.length:Int))
  (step:∀ (k:Nat) a,l[k]? = some a→k<l.length→(if p a=true then L ((k+1:Nat):Int) else φ 1)→L k) (h:φ (if l.all p=true then 0 else 1)):L 0:=
 all_loop (l:=l) (p:=p) (L:=L) (φ:=fun b=>φ (if b=true then 0 else 1)) (fun h=>stop (by simpa using h)) (fun k a ha hk h=>step k a ha hk (by simpa using h)) h
theorem closure_Valid.spec {n:Int} {l:List api_FD} (hl:FdOK l):closure_Valid.C n l (fdsE n l):=by
 obtain ⟨r,h1,h2⟩:=closure_Valid.enter n l (fun r=>r=fdsE n l) (by
  by_cases a:n<0∨16<n
  ·have e:fdsE n l=7:=if_pos a
   rw [e]
   by_cases b:n<0
   ·rw [if_pos b]
   ·rw [if_neg b,if_pos (by omega)]
  ·rw [if_neg (by omega),if_neg (by omega)]
   by_cases b:64<l.length
   ·have e:fdsE n l=3:=by unfold fdsE;rw [if_neg a,if_pos b]
    rw [e,if_pos (by omega)]
   ·have e:fdsE n l=if (l.all fun d=>inU n.toNat d.Lhs d.Rhs)=true then 0 else 1:=by unfold fdsE;rw [if_neg a,if_neg b]
    rw [e,if_neg (by omega)]
    ·obtain ⟨m,rfl⟩:∃ m:Nat,n=m:=⟨n.toNat,by omega⟩
     refine all_goal (l:=l) (p:=fun d=>inU m d.Lhs d.Rhs) (L:=fun i=>closure_Valid.L1 m l i _) (φ:=fun r=>r=_) ?_ ?_ rfl
     ·intro h;apply closure_Valid.L1_step;rw [if_neg (by omega)];exact h
     ·intro k d hd hk h
      apply closure_Valid.L1_step
      rw [if_pos (by omega)]
      refine ⟨d,lget_of hd,by omega,?_⟩
      have hd':=hl d (List.mem_of_getElem? hd)
      have e:=in_or (n:=m) hd'.1 hd'.2
      rw [wrap_succ (by omega)]
      split
      ·rename_i hh;rw [if_pos (e.1 hh)] at h;exact h
      ·rename_i hh;rw [if_neg (fun h3=>hh (e.2 h3))] at h;exact h)
 rw [← h1];exact h2
theorem fdsE_n {n:Int} {l:List api_FD} (h:fdsE n l=0):0≤n∧n≤16:=by
 unfold fdsE at h
 split at h
 ·cases h
 ·omega
end Go.Own
namespace Go.Own
def passN:List api_FD→Nat→Nat
 | [],s=>s
 | d::l,s=>passN l (if sN d.Lhs &&& s=sN d.Lhs then s ||| sN d.Rhs else s)
def passK (l:List api_FD):Nat→Nat→Nat
 | 0,s=>s
 | k+1,s=>passK l k (passN l s)
def cloN (l:List api_FD) (s:Nat):Nat:=passK l 33 s
def subN (a b:Nat):Prop:=∀ i,a.testBit i=true→b.testBit i=true
theorem subN_refl (a:Nat):subN a a:=fun _ h=>h
theorem subN_trans {a b c:Nat} (h:subN a b) (k:subN b c):subN a c:=fun i hi=>k i (h i hi)
theorem subN_or {a b:Nat}:subN a (a ||| b):=fun i hi=>by rw [Nat.testBit_or,hi];rfl
theorem subN_anti {a b:Nat} (h:subN a b) (k:subN b a):a=b:=Nat.eq_of_testBit_eq fun i=>by
 cases ha:a.testBit i with
 | true=>exact (h i ha).symm
 | false=>
  cases hb:b.testBit i with
  | true=>rw [k i hb] at ha;cases ha
  | false=>rfl
theorem passN_up:∀ {l:List api_FD} {s:Nat},subN s (passN l s)
 | [],s=>subN_refl s
 | d::l,s=>by
  rw [passN]
  split
  ·exact subN_trans subN_or passN_up
  ·exact passN_up
theorem passN_lt:∀ {l:List api_FD} {s n:Nat},s<2^n→(∀ d∈l,sN d.Rhs<2^n)→passN l s<2^n
 | [],_,_,h,_=>h
 | d::l,s,n,h,hl=>by
  rw [passN]
  refine passN_lt ?_ fun x hx=>hl x (by simp [hx])
  split
  ·exact Nat.or_lt_two_pow h (hl d (by simp))
  ·exact h
def IsClo (l:List api_FD) (s:Nat):Prop:=∀ d∈l,subN (sN d.Lhs) s→subN (sN d.Rhs) s
theorem passN_min:∀ {l:List api_FD} {s c:Nat},subN s c→IsClo l c→subN (passN l s) c
 | [],_,_,h,_=>h
 | d::l,s,c,h,hc=>by
  rw [passN]
  have hc':IsClo l c:=fun x hx=>hc x (by simp [hx])
  split
  ·rename_i hs
   refine passN_min (fun i hi=>?_) hc'
   rw [Nat.testBit_or,Bool.or_eq_true] at hi
   rcases hi with hi | hi
   ·exact h i hi
   ·exact hc d (by simp) (subN_trans (sub_iff.1 hs) h) i hi
  ·exact passN_min h hc'
theorem passN_fix:∀ {l:List api_FD} {s:Nat},passN l s=s→IsClo l s
 | [],_,_=>fun d hd=>by cases hd
 | d::l,s,h=>by
  rw [passN] at h
  have h1:(if sN d.Lhs &&& s=sN d.Lhs then s ||| sN d.Rhs else s)=s:=by
   refine subN_anti ?_ ?_
   ·have:=passN_up (l:=l) (s:=if sN d.Lhs &&& s=sN d.Lhs then s ||| sN d.Rhs else s)
    rw [h] at this;exact this
   ·split
    ·exact subN_or
    ·exact subN_refl s
  rw [h1] at h
  intro x hx hs
  rcases List.mem_cons.1 hx with rfl | hx
  ·rw [if_pos (sub_iff.2 hs)] at h1
   intro i hi
   rw [← h1,Nat.testBit_or,hi,Bool.or_true]
  ·exact passN_fix h x hx hs
theorem passK_fix {l:List api_FD} {s:Nat} (h:passN l s=s):∀ k,passK l k s=s
 | 0=>rfl
 | k+1=>by rw [passK,h];exact passK_fix h k
theorem szN_lt {a b:Nat} (hs:subN a b) (hne:a≠b) (hb:b<2^32):szN a<szN b:=by
 have hex:∃ i,b.testBit i=true∧a.testBit i=false:=by
  false_or_by_contra
  rename_i h
  refine hne (subN_anti hs fun i hi=>?_)
  cases ha:a.testBit i with
  | true=>rfl
  | false=>exact absurd ⟨i,hi,ha⟩ h
 obtain ⟨i,h1,h2⟩:=hex
 have hmem:i∈bitsOf b:=(bitsOf_mem hb).2 h1
 have ha:a<2^32:=by
  refine lt_iff.2 fun j hj=>?_
  exact lt_iff.1 hb j (hs j hj)
 have hsub:(bitsOf a).length+1≤(bitsOf b).length:=by
  have hnd:(i::bitsOf a).Nodup:=by
   rw [List.nodup_cons]
   refine ⟨fun h=>?_,(bitsOf_sorted (n:=a)).imp fun h=>by omega⟩
   rw [bitsOf_mem ha,h2] at h;cases h
  have:(i::bitsOf a) ⊆ bitsOf b:=by
   intro x hx
   rcases List.mem_cons.1 hx with rfl | hx
   ·exact hmem
   ·exact (bitsOf_mem hb).2 (hs x ((bitsOf_mem ha).1 hx))
  exact hnd.length_le_of_subset this
 exact hsub
theorem passK_done {l:List api_FD} (hl:∀ d∈l,sN d.Rhs<2^32):∀ {k s:Nat},s<2^32→33≤k+szN s→passN l (passK l k s)=passK l k s
 | 0,s,hs,hk=>by have:=bitsOf_len (n:=s);unfold szN at hk;omega
 | k+1,s,hs,hk=>by
  rw [passK]
  by_cases h:passN l s=s
  ·rw [h,passK_fix h,h]
  ·have:=szN_lt (passN_up (l:=l)) (Ne.symm h) (passN_lt hs hl)
   exact passK_done hl (passN_lt hs hl) (by omega)
theorem passK_up {l:List api_FD}:∀ {k s:Nat},subN s (passK l k s)
 | 0,s=>subN_refl s
 | k+1,s=>subN_trans passN_up passK_up
theorem passK_min {l:List api_FD} {c:Nat} (hc:IsClo l c):∀ {k s:Nat},subN s c→subN (passK l k s) c
 | 0,_,h=>h
 | k+1,_,h=>passK_min hc (k:=k) (passN_min h hc)
theorem passK_lt {l:List api_FD} {n:Nat} (hl:∀ d∈l,sN d.Rhs<2^n):∀ {k s:Nat},s<2^n→passK l k s<2^n
 | 0,_,h=>h
 | k+1,_,h=>passK_lt hl (k:=k) (passN_lt h hl)
theorem cloN_up {l:List api_FD} {s:Nat}:subN s (cloN l s):=passK_up
theorem cloN_min {l:List api_FD} {s c:Nat} (h:subN s c) (hc:IsClo l c):subN (cloN l s) c:=passK_min hc h
theorem cloN_clo {l:List api_FD} {s:Nat} (hl:∀ d∈l,sN d.Rhs<2^32) (hs:s<2^32):IsClo l (cloN l s):=passN_fix (passK_done hl hs (by omega))
theorem cloN_lt {l:List api_FD} {n s:Nat} (hl:∀ d∈l,sN d.Rhs<2^n) (hs:s<2^n):cloN l s<2^n:=passK_lt hl hs
end Go.Own
namespace Go.Own
def pop8 (m:Nat):Nat:=((List.range 8).filter fun i=>m.testBit i).length
theorem filter_shift {n k:Nat}:((List.range 8).map (·+k)).filter (fun i=>n.testBit i)=((List.range 8).filter fun i=>(n / 2^k % 256).testBit i).map (·+k):=by
 rw [List.filter_map]
 congr 1
 refine List.filter_congr fun i hi=>?_
 have hi:=List.mem_range.1 hi
 simp only [Function.comp]
 rw [show (256:Nat)=2^8 from rfl,Nat.testBit_mod_two_pow,Nat.testBit_div_two_pow]
 simp [hi]
theorem szN_bytes (n:Nat):szN n=pop8 (n % 256)+pop8 (n / 2^8 % 256)+pop8 (n / 2^16 % 256)+pop8 (n / 2^24 % 256):=by
 have e:List.range 32=(List.range 8).map (·+0)++(List.range 8).map (·+8)++(List.range 8).map (·+16)++(List.range 8).map (·+24):=by decide
 unfold szN bitsOf pop8
 rw [e,List.filter_append,List.filter_append,List.filter_append,filter_shift,filter_shift,filter_shift,filter_shift]
 simp only [List.length_append,List.length_map,Nat.pow_zero,Nat.div_one]
theorem and255 (a:Nat):a &&& 255=a % 256:=Nat.and_two_pow_sub_one_eq_mod a 8
theorem pop8_le {m:Nat}:pop8 m≤8:=by
 unfold pop8
 exact Nat.le_trans (List.length_filter_le _ _) (by simp)
theorem u8i_pop {m:Nat}:u8i (UInt8.ofNat (pop8 m))=(pop8 m:Int):=by
 unfold u8i
 rw [UInt8.toNat_ofNat']
 have:=pop8_le (m:=m)
 omega
theorem math_bits_OnesCount32.spec {n:Nat} (hn:n<2^32):math_bits_OnesCount32.C n (szN n:Int):=by
 obtain ⟨r,h1,h2⟩:=math_bits_OnesCount32.enter n (fun r=>r=(szN n:Int)) (by
  have ht:n<2^top .u32:=by simpa [top] using hn
  have e24:=shrw_nat (k:=.u32) (a:=n) (i:=24) ht
  have e16:=shrw_nat (k:=.u32) (a:=n) (i:=16) ht
  have e8:=shrw_nat (k:=.u32) (a:=n) (i:=8) ht
  rw [show ((24:Nat):Int)=24 from rfl] at e24
  rw [show ((16:Nat):Int)=16 from rfl] at e16
  rw [show ((8:Nat):Int)=8 from rfl] at e8
  have a255:∀ a:Nat,a<2^32→bAnd .u32 (a:Int) 255=((a % 256:Nat):Int):=fun a ha=>by
   have:=bAnd_nat (k:=.u32) (a:=a) (b:=255) (by simpa [top] using ha) (by simp only [top];omega)
   rw [show ((255:Nat):Int)=255 from rfl] at this
   rw [this,and255]
  rw [e24,e16,e8,a255 _ (Nat.lt_of_le_of_lt (Nat.div_le_self _ _) hn),a255 _ (Nat.lt_of_le_of_lt (Nat.div_le_self _ _) hn),a255 _ hn]
  have h24:n / 2^24<256:=by omega
  have em:n / 2^24=n / 2^24 % 256:=(Nat.mod_eq_of_lt h24).symm
  have hs:=szN_bytes n
  rw [em]
  have m1:n / 2^24 % 256<256:=Nat.mod_lt _ (by omega)
  have m2:n / 2^16 % 256<256:=Nat.mod_lt _ (by omega)
  have m3:n / 2^8 % 256<256:=Nat.mod_lt _ (by omega)
  have m4:n % 256<256:=Nat.mod_lt _ (by omega)
  generalize n / 2^24 % 256=q1 at *
  generalize n / 2^16 % 256=q2 at *
  generalize n / 2^8 % 256=q3 at *
  generalize n % 256=q4 at *
  clear hn ht e24 e16 e8 a255 h24 em
  refine ⟨UInt8.ofNat (pop8 q1),⟨by omega,?_⟩,UInt8.ofNat (pop8 q2),⟨by omega,?_⟩,UInt8.ofNat (pop8 q3),⟨by omega,?_⟩,UInt8.ofNat (pop8 q4),⟨by omega,?_⟩,?_⟩
  ·rw [Int.toNat_natCast]
   clear hs m2 m3 m4
   revert q1
   decide +kernel
  ·rw [Int.toNat_natCast]
   clear hs m1 m3 m4
   revert q2
   decide +kernel
  ·rw [Int.toNat_natCast]
   clear hs m1 m2 m4
   revert q3
   decide +kernel
  ·rw [Int.toNat_natCast]
   clear hs m1 m2 m3
   revert q4
   decide +kernel
  ·rw [u8i_pop,u8i_pop,u8i_pop,u8i_pop]
   have b1:=pop8_le (m:=q1)
   have b2:=pop8_le (m:=q2)
   have b3:=pop8_le (m:=q3)
   have b4:=pop8_le (m:=q4)
   have w8:∀ a b:Nat,a+b<256→IntKind.wrap .u8 ((a:Int)+(b:Int))=((a+b:Nat):Int):=fun a b h=>by
    rw [show (a:Int)+(b:Int)=((a+b:Nat):Int) by omega]
    exact wrap_top (k:=.u8) (by simpa [top] using h)
   rw [w8 _ _ (by omega),w8 _ _ (by omega),w8 _ _ (by omega),hs]
   have:pop8 q1+pop8 q2+pop8 q3+pop8 q4=pop8 q4+pop8 q3+pop8 q2+pop8 q1:=by omega
   rw [this]
   exact wrap_id (by omega) (by omega))
 rw [← h1];exact h2
theorem attrset_Size.spec {x:Int} (hx:U32 x):attrset_Size.C x (szN (sN x):Int):=by
 have:=math_bits_OnesCount32.spec hx.lt
 rw [← hx.eq] at this
 obtain ⟨r,h1,h2⟩:=attrset_Size.enter x (fun r=>r=(szN (sN x):Int)) ⟨_,this,rfl⟩
 rw [← h1];exact h2
end Go.Own
namespace Go.Own
theorem and_half (a b:Nat):(a &&& b) / 2=(a / 2) &&& (b / 2):=by
 apply Nat.eq_of_testBit_eq
 intro i
 rw [Nat.testBit_and,Nat.testBit_div_two,Nat.testBit_div_two,Nat.testBit_div_two,Nat.testBit_and]
theorem and_odd (a b:Nat):(a &&& b) % 2=1↔a % 2=1∧b % 2=1:=by
 have:=Nat.testBit_and a b 0
 rw [Nat.testBit_zero,Nat.testBit_zero,Nat.testBit_zero] at this
 by_cases h1:a % 2=1<;>by_cases h2:b % 2=1<;>simp_all
theorem and_bin (a b:Nat):a &&& b=2*((a / 2) &&& (b / 2))+(if a % 2=1∧b % 2=1 then 1 else 0):=by
 have h:=Nat.div_add_mod (a &&& b) 2
 have h2:=and_odd a b
 rw [and_half] at h
 split
 ·rename_i hc;have:=h2.2 hc;omega
 ·rename_i hc
  have:¬ (a &&& b) % 2=1:=fun hh=>hc (h2.1 hh)
  omega
theorem sub_bin {a b:Nat}:a &&& b=a↔((a / 2) &&& (b / 2)=a / 2)∧(a % 2=1→b % 2=1):=by
 constructor
 ·intro h
  constructor
  ·rw [← and_half,h]
  ·intro h1
   exact ((and_odd a b).1 (by rw [h];exact h1)).2
 ·rintro ⟨h1,h2⟩
  rw [and_bin,h1]
  by_cases ha:a % 2=1
  ·rw [if_pos ⟨ha,h2 ha⟩];omega
  ·rw [if_neg (fun h=>ha h.1)];omega
theorem sub_le {a b:Nat} (h:a &&& b=a):a≤b:=by rw [← h];exact Nat.and_le_right
theorem pred_sub (x:Nat):∀ (s y:Nat),x &&& s=x→0<x→y &&& s=y→y<x→y≤(x-1) &&& s:=by
 induction x using Nat.strongRecOn with
 | _ x ih=>
  intro s y hx h0 hy hlt
  obtain ⟨x1,x2⟩:=sub_bin.1 hx
  obtain ⟨y1,y2⟩:=sub_bin.1 hy
  rw [and_bin]
  by_cases hodd:x % 2=1
  ·have e:(x-1) / 2=x / 2:=by omega
   rw [e,x1]
   omega
  ·have e:(x-1) / 2=x / 2-1:=by omega
   have e2:(x-1) % 2=1:=by omega
   rw [e,e2]
   have:=ih (x / 2) (by omega) (s / 2) (y / 2) x1 (by omega) y1 (by omega)
   by_cases hy1:y % 2=1
   ·rw [if_pos ⟨rfl,y2 hy1⟩];omega
   ·split<;>omega
def bsL:Nat→Nat→List Nat
 | 0,_=>[0]
 | k+1,s=>(bsL k (s / 2)).flatMap fun y=>if s % 2=1 then [2*y,2*y+1] else [2*y]
theorem bsL_mem:∀ {k s:Nat},s<2^k→∀ n,n∈bsL k s↔n &&& s=n
 | 0,s,hs,n=>by
  have:s=0:=by simpa using hs
  subst this
  simp [bsL,eq_comm]
 | k+1,s,hs,n=>by
  have ih:=bsL_mem (k:=k) (s:=s / 2) (by rw [Nat.pow_succ] at hs;omega)
  simp only [bsL,List.mem_flatMap]
  rw [sub_bin]
  constructor
  ·rintro ⟨y,hy,hn⟩
   have hy:=(ih y).1 hy
   split at hn
   ·rename_i h1
    rcases List.mem_cons.1 hn with rfl | hn
    ·have:2*y / 2=y:=by omega
     rw [this];exact ⟨hy,fun _=>h1⟩
    ·have hn:=List.mem_singleton.1 hn
     subst hn
     have:(2*y+1) / 2=y:=by omega
     rw [this];exact ⟨hy,fun _=>h1⟩
   ·have hn:=List.mem_singleton.1 hn
    subst hn
    have:2*y / 2=y:=by omega
    rw [this];exact ⟨hy,fun h=>by omega⟩
  ·rintro ⟨h1,h2⟩
   refine ⟨n / 2,(ih _).2 h1,?_⟩
   split
   ·by_cases hn:n % 2=1
    ·have:n=2*(n / 2)+1:=by omega
     simp;omega
    ·simp;omega
   ·rename_i hs1
    have:¬ n % 2=1:=fun h=>hs1 (h2 h)
    simp;omega
theorem bsL_asc:∀ {k s:Nat},(bsL k s).Pairwise (·<·)
 | 0,s=>by simp [bsL]
 | k+1,s=>by
  simp only [bsL]
  rw [List.pairwise_flatMap]
  refine ⟨fun a _=>?_,(bsL_asc (k:=k) (s:=s / 2)).imp fun {a b} hab x hx y hy=>?_⟩
  ·split<;>simp
  ·split at hx
   ·rename_i h1
    rw [if_pos h1] at hy
    simp at hx hy;omega
   ·rename_i h1
    rw [if_neg h1] at hy
    simp at hx hy;omega
def pcN (k s:Nat):Nat:=((List.range k).filter fun i=>s.testBit i).length
theorem pcN_succ (k s:Nat):pcN (k+1) s=(if s % 2=1 then 1 else 0)+pcN k (s / 2):=by
 unfold pcN
 rw [List.range_succ_eq_map,List.filter_cons,List.filter_map]
 have e:(List.range k).filter ((fun i=>s.testBit i) ∘ Nat.succ)=(List.range k).filter fun i=>(s / 2).testBit i:=by
  refine List.filter_congr fun i _=>?_
  simp only [Function.comp,Nat.succ_eq_add_one,Nat.testBit_add_one]
 rw [e,Nat.testBit_zero]
 by_cases h:s % 2=1
 ·simp [h];omega
 ·simp [h]
theorem sum_const (l:List Nat) (c:Nat):(l.map fun _=>c).sum=l.length*c:=by
 induction l with
 | nil=>simp
 | cons a l ih=>rw [List.map_cons,List.sum_cons,ih,List.length_cons,Nat.add_mul];omega
theorem bsL_len:∀ {k s:Nat},(bsL k s).length=2^pcN k s
 | 0,s=>by simp [bsL,pcN]
 | k+1,s=>by
  have ih:=bsL_len (k:=k) (s:=s / 2)
  rw [pcN_succ]
  simp only [bsL,List.length_flatMap]
  by_cases h:s % 2=1
  ·simp only [if_pos h]
   have e:((bsL k (s / 2)).map fun a=>[2*a,2*a+1].length).sum=(bsL k (s / 2)).length*2:=sum_const _ 2
   rw [e,ih,Nat.pow_add];omega
  ·simp only [if_neg h]
   have e:((bsL k (s / 2)).map fun a=>[2*a].length).sum=(bsL k (s / 2)).length*1:=sum_const _ 1
   rw [e,ih];simp
end Go.Own
namespace Go.Own
def letB (x:Int):Bool:=decide (97≤x∧x≤122∨65≤x∧x≤90∨x=95)
def alnB (x:Int):Bool:=letB x || decide (48≤x∧x≤57)
def nullB:List UInt8:=[110,117,108,108]
theorem bl_null:((⟨#[110,117,108,108]⟩:ByteArray)).toList=nullB:=bl_mk (l:=nullB)
theorem bl_nil:((⟨#[]⟩:ByteArray)).toList=[]:=bl_mk (l:=[])
def nameL:List UInt8→Bool
 | []=>false
 | b::r=>decide (r.length<24)&&letB (u8i b)&&!decide (b::r=nullB)&&r.all fun b=>alnB (u8i b)
def nameF (s:ByteArray):Bool:=nameL s.toList
theorem aln_step {φ:Bool→Prop} {P:Prop} {x:Int} (h:if alnB x=true then P else φ false) (hl:¬ letB x=true):if x<48 then φ false else if 57<x then φ false else P:=by
 have e:alnB x=decide (48≤x∧x≤57):=by unfold alnB;rw [Bool.eq_false_iff.2 hl,Bool.false_or]
 rw [e] at h
 repeat' split
 ·rw [if_neg (by rw [decide_eq_true_iff];omega)] at h;exact h
 ·rw [if_neg (by rw [decide_eq_true_iff];omega)] at h;exact h
 ·rw [if_pos (by rw [decide_eq_true_iff];omega)] at h;exact h
namespace table_isName
theorem two {s:ByteArray} {i:Int} {φ:Bool→Prop} {x:Int} (h:if letB x=true then L3 s i φ else if i=0 then φ false else if x<48 then φ false else if 57<x then φ false else L3 s i φ):L2 s i x (letB x) φ:=by
 apply L2_step;exact h
theorem spec {s : ByteArray} : C s (nameF s) := by
  obtain ⟨r, h1, h2⟩ := enter s (fun r => r = nameF s) (by
    unfold nameF
    rw [bsize_eq, bl_null, bl_nil]
    cases hs : s.toList with
    | nil => simp [nameL]
    | cons b t =>
      rw [if_neg (by simp)]
      split
      · rename_i hn
        have hn : 24 ≤ t.length := by simp at hn; omega
        simp [nameL]; omega
      · rename_i hn
        have hn : t.length < 24 := by simp at hn; omega
        have hlen : s.toList.length = t.length + 1 := by rw [hs]; rfl
        split
        · rename_i h0
          simp [nameL, nullB, h0]
        · rename_i h0
          have body : ∀ (k : Nat) c, s.toList[k]? = some c → (if letB (u8i c) = true then L1 s ((k + 1 : Nat) : Int) (fun r => r = nameL (b :: t)) else if (k : Int) = 0 then false = nameL (b :: t) else if (u8i c) < 48 then false = nameL (b :: t) else if 57 < (u8i c) then false = nameL (b :: t) else L1 s ((k + 1 : Nat) : Int) (fun r => r = nameL (b :: t))) → L1 s k (fun r => r = nameL (b :: t)) := by
            intro k c hc h
            have hk := (List.getElem?_eq_some_iff.1 hc).1
            apply L1_step
            rw [bsize_eq, if_pos (by omega)]
            refine ⟨c, bget_of hc, ?_⟩
            have next : L1 s ((k + 1 : Nat) : Int) (fun r => r = nameL (b :: t)) → L3 s k fun r => r = nameL (b :: t) := fun h => by
              apply L3_step
              rw [wrap_succ (by omega)]
              exact h
            have key : L2 s k (u8i c) (letB (u8i c)) fun r => r = nameL (b :: t) := by
              apply two
              split
              · rename_i hh; rw [if_pos hh] at h; exact next h
              · rename_i hh; rw [if_neg hh] at h
                split
                · rename_i h2; rw [if_pos h2] at h; exact h
                · rename_i h2; rw [if_neg h2] at h
                  split
                  · rename_i h3; rw [if_pos h3] at h; exact h
                  · rename_i h3; rw [if_neg h3] at h
                    split
                    · rename_i h4; rw [if_pos h4] at h; exact h
                    · rename_i h4; rw [if_neg h4] at h; exact next h
            have e : ∀ v, v = letB (u8i c) → L2 s k (u8i c) v fun r => r = nameL (b :: t) := by rintro _ rfl; exact key
            repeat' split
            all_goals apply e
            all_goals unfold letB
            all_goals first
              | (symm; rw [decide_eq_true_iff]; omega)
              | (by_cases h : u8i c = 95
                 · simp [h]
                 · have : (u8i c == 95) = false := by simpa using h
                   rw [this]; symm; rw [decide_eq_false_iff_not]; omega)
          have h0s : s.toList[0]? = some b := by rw [hs]; rfl
          refine body 0 b h0s ?_
          split
          · rename_i hb
            have rest := all_loop (l := t) (p := fun b => alnB (u8i b)) (L := fun i => L1 s (i + 1) fun r => r = nameL (b :: t)) (φ := fun r => r = nameL (b :: t)) ?_ ?_ ?_
            · simpa using rest
            · intro h
              apply L1_step
              rw [bsize_eq, if_neg (by omega)]; exact h
            · intro k c hc hk h
              have e1 : ((k : Nat) : Int) + 1 = ((k + 1 : Nat) : Int) := by omega
              rw [e1]
              refine body (k + 1) c (by rw [hs]; simpa using hc) ?_
              split
              · rename_i hl
                rw [if_pos (by unfold alnB; rw [hl]; rfl)] at h
                exact h
              · rename_i hl
                rw [if_neg (by omega)]
                exact aln_step (φ := fun r => r = nameL (b :: t)) h hl
            · simp [nameL, hb, h0, hn]
          · rename_i hb
            simp [nameL, hb])
  rw [← h1]; exact h2
end table_isName
def eqS (x a:ByteArray):Bool:=decide (a=x)
def namesGo:List ByteArray→List ByteArray→Bool
 | _,[]=>true
 | pre,a::r=>nameF a&&!pre.any (eqS a)&&namesGo (pre++[a]) r
def namesF (l:List ByteArray):Bool:=namesGo [] l
namespace slices_Index_sstring_string
theorem spec {l:List ByteArray} {x:ByteArray} (hn:l.length<Big):C l x (ixI (eqS x) l):=by
 obtain ⟨r,h1,h2⟩:=enter l x (fun r=>r=ixI (eqS x) l) (by
  refine index_loop (l:=l) (p:=eqS x) (L:=fun i=>L1 l x i _) (φ:=fun r=>r=ixI (eqS x) l) ?_ ?_ rfl
  ·intro h;apply L1_step;rw [if_neg (by omega)];exact h
  ·intro k a ha hk h
   apply L1_step
   rw [if_pos (by omega)]
   refine ⟨a,lget_of ha,?_⟩
   rw [wrap_succ (by unfold Big at hn;omega)]
   split
   ·rename_i hh;rw [if_pos (by simp [eqS,bl_inj.1 hh])] at h;exact h
   ·rename_i hh;rw [if_neg (by simp only [eqS,decide_eq_true_eq];rintro rfl;exact hh rfl)] at h;exact h)
 rw [← h1];exact h2
end slices_Index_sstring_string
theorem slices_Contains_sstring_string.spec {l:List ByteArray} {x:ByteArray} (hn:l.length<Big):slices_Contains_sstring_string.C l x (l.any (eqS x)):=by
 obtain ⟨r,h1,h2⟩:=slices_Contains_sstring_string.enter l x (fun r=>r=l.any (eqS x)) ⟨_,slices_Index_sstring_string.spec hn,by rw [ixI_any]⟩
 rw [← h1];exact h2
theorem names_loop {l : List ByteArray} {L : Int → Prop} {P Q : Prop} (stop : P → L (l.length : Int))
    (step : ∀ (k : Nat) a, l[k]? = some a → k < l.length → (if nameF a = true then (if (l.take k).any (eqS a) = true then Q else L ((k + 1 : Nat) : Int)) else Q) → L k) (h : namesF l = true → P) (h' : namesF l = false → Q) : L 0 := by
  have : ∀ (r : List ByteArray) (k : Nat), l.drop k = r → k ≤ l.length → (namesGo (l.take k) r = true → P) → (namesGo (l.take k) r = false → Q) → L k := by
    intro r
    induction r with
    | nil => intro k hd hk h h'; have : k = l.length := by have := drop_ge hd; omega
             subst this; exact stop (h rfl)
    | cons a r ih =>
      intro k hd hk h h'
      have hlt := drop_lt hd
      refine step k a (drop_get hd) hlt ?_
      have hn := ih (k + 1) (drop_next hd) hlt
      have e : l.take (k + 1) = l.take k ++ [a] := by rw [List.take_add_one, drop_get hd]; rfl
      rw [e] at hn
      simp only [namesGo] at h h'
      split
      · rename_i h1
        split
        · rename_i h2
          exact h' (by simp [h1, h2])
        · rename_i h2
          have h2 := Bool.eq_false_iff.2 h2
          exact hn (fun hh => h (by simp [h1, h2, hh])) (fun hh => h' (by simp [h1, h2, hh]))
      · rename_i h1
        have h1 := Bool.eq_false_iff.2 h1
        exact h' (by simp [h1])
  exact this l 0 rfl (Nat.zero_le _) h h'
def validV (v:api_Value):Bool:=decide (v.Kind=0∧v.Num=0∧v.Str.toList=[]∨v.Kind=1∧v.Str.toList=[]∨v.Kind=2∧v.Num=0∧v.Str.toList.length≤200∨v.Kind=3∧1≤v.Num∧v.Str.toList=[])
theorem valid_goal {v : api_Value} {φ : Bool → Prop} (h : φ (validV v)) : (if v.Kind = 0 then (if v.Num = 0 then φ ((v.Str.toList == ((⟨#[]⟩ : ByteArray)).toList)) else φ false) else (if v.Kind = 1 then φ ((v.Str.toList == ((⟨#[]⟩ : ByteArray)).toList)) else (if v.Kind = 2 then (if v.Num = 0 then φ ((decide ((bsize v.Str) ≤ 200))) else φ false) else (if v.Kind = 3 then (if 1 ≤ v.Num then φ ((v.Str.toList == ((⟨#[]⟩ : ByteArray)).toList)) else φ false) else φ false)))) := by
  have e : ∀ b, b = validV v → φ b := by rintro _ rfl; exact h
  have e0 : (v.Str.toList == ((⟨#[]⟩ : ByteArray)).toList) = decide (v.Str.toList = []) := by
    rw [bl_nil]
    by_cases h : v.Str.toList = []
    · simp [h]
    · simp [h]
  rw [e0, bsize_eq]
  repeat' split
  all_goals apply e
  all_goals unfold validV
  all_goals first
    | (rw [decide_eq_decide]; omega)
    | (symm; rw [decide_eq_false_iff_not]; omega)
    | (rw [decide_eq_decide]; constructor
       · intro h; simp_all
       · intro h; simp_all)
theorem value_Valid.spec {v:api_Value}:value_Valid.C v (validV v):=by
 obtain ⟨r,h1,h2⟩:=value_Valid.enter v (fun r=>r=validV v) (valid_goal (φ:=fun r=>r=validV v) rfl)
 rw [← h1];exact h2
def validsF (l:List api_Value):Bool:=l.all validV
theorem table_validValues_1.spec {v:api_Value}:table_validValues_1.C v (!validV v):=by
 obtain ⟨r,h1,h2⟩:=table_validValues_1.enter v (fun r=>r=!validV v) ⟨_,value_Valid.spec,rfl⟩
 rw [← h1];exact h2
namespace slices_IndexFunc_sapi_Value_api_Value_table_validValues_1
theorem spec {l:List api_Value} (hn:l.length<Big):C l (ixI (fun v=>!validV v) l):=by
 obtain ⟨r,h1,h2⟩:=enter l (fun r=>r=ixI (fun v=>!validV v) l) (by
  refine index_loop (l:=l) (p:=fun v=>!validV v) (L:=fun i=>L1 l i _) (φ:=fun r=>r=ixI (fun v=>!validV v) l) ?_ ?_ rfl
  ·intro h;apply L1_step;rw [if_neg (by omega)];exact h
  ·intro k a ha hk h
   apply L1_step
   rw [if_pos (by omega)]
   refine ⟨a,lget_of ha,_,table_validValues_1.spec,?_⟩
   rw [wrap_succ (by unfold Big at hn;omega)]
   exact h)
 rw [← h1];exact h2
end slices_IndexFunc_sapi_Value_api_Value_table_validValues_1
theorem slices_ContainsFunc_sapi_Value_api_Value_table_validValues_1.spec {l:List api_Value} (hn:l.length<Big):slices_ContainsFunc_sapi_Value_api_Value_table_validValues_1.C l (!validsF l):=by
 obtain ⟨r,h1,h2⟩:=slices_ContainsFunc_sapi_Value_api_Value_table_validValues_1.enter l (fun r=>r=!validsF l) ⟨_,slices_IndexFunc_sapi_Value_api_Value_table_validValues_1.spec hn,by
  rw [ixI_any];unfold validsF;rw [List.any_eq_not_all_not];simp⟩
 rw [← h1];exact h2
theorem table_validValues.spec {l:List api_Value} (hn:l.length<Big):table_validValues.C l (validsF l):=by
 obtain ⟨r,h1,h2⟩:=table_validValues.enter l (fun r=>r=validsF l) ⟨_,slices_ContainsFunc_sapi_Value_api_Value_table_validValues_1.spec hn,by
  show (!(!validsF l))=_
  rw [Bool.not_not]⟩
 rw [← h1];exact h2
def rowsF (n:Nat):Int→List api_Row→Int
 | _,[]=>0
 | last,r::rs=>if r.ID≤last then 1 else if r.Values.length=n then (if validsF r.Values=true then rowsF n r.ID rs else 1) else 6
def tableF (t:api_Table):Int:=if nameF t.Name=true then (if 16<t.Attrs.length then 3 else if 1000<t.Rows.length then 3 else if namesF t.Attrs=true then rowsF t.Attrs.length 0 t.Rows else 1) else 1
theorem rows_loop {n : Nat} {l : List api_Row} {L : Int → Int → Prop} {φ : Int → Prop} (stop : ∀ last, φ 0 → L last (l.length : Int))
    (step : ∀ (k : Nat) r last, l[k]? = some r → k < l.length → (if r.ID ≤ last then φ 1 else if r.Values.length = n then (if validsF r.Values = true then L r.ID ((k + 1 : Nat) : Int) else φ 1) else φ 6) → L last k) (h : φ (rowsF n 0 l)) : L 0 0 := by
  have : ∀ (r : List api_Row) (k : Nat) (last : Int), l.drop k = r → k ≤ l.length → φ (rowsF n last r) → L last k := by
    intro r
    induction r with
    | nil => intro k last hd hk h; have : k = l.length := by have := drop_ge hd; omega
             subst this; exact stop _ h
    | cons a r ih =>
      intro k last hd hk h
      have hlt := drop_lt hd
      refine step k a last (drop_get hd) hlt ?_
      simp only [rowsF] at h
      split
      · rename_i h1; rw [if_pos h1] at h; exact h
      · rename_i h1; rw [if_neg h1] at h
        split
        · rename_i h2; rw [if_pos h2] at h
          split
          · rename_i h3; rw [if_pos h3] at h; exact ih (k + 1) _ (drop_next hd) hlt h
          · rename_i h3; rw [if_neg h3] at h; exact h
        · rename_i h2; rw [if_neg h2] at h; exact h
  exact this l 0 0 rfl (Nat.zero_le _) h
namespace table_Valid
theorem rows {t:api_Table} {φ:Int→Prop} (hr:t.Rows.length≤1000) (ha:t.Attrs.length≤16) (h:φ (rowsF t.Attrs.length 0 t.Rows)):L2 t 0 0 φ:=by
 refine rows_loop (n:=t.Attrs.length) (l:=t.Rows) (L:=fun last i=>L2 t last i φ) (φ:=φ) ?_ ?_ h
 ·intro last h;apply L2_step;rw [if_neg (by omega)];exact h
 ·intro k r last hr hk h
  apply L2_step
  rw [if_pos (by omega)]
  refine ⟨r,lget_of hr,?_⟩
  split
  ·rename_i h1;rw [if_pos h1] at h;exact h
  ·rename_i h1;rw [if_neg h1] at h
   split
   ·rename_i h2
    have h2:r.Values.length=t.Attrs.length:=by omega
    rw [if_pos h2] at h
    refine ⟨_,table_validValues.spec (by unfold Big;omega),?_⟩
    rw [wrap_succ (by omega)]
    exact h
   ·rename_i h2;rw [if_neg (by omega)] at h;exact h
theorem spec {t:api_Table}:C t (tableF t):=by
 obtain ⟨r,h1,h2⟩:=enter t (fun r=>r=tableF t) (by
  refine ⟨_,table_isName.spec,?_⟩
  unfold tableF
  split
  ·by_cases h1:16<t.Attrs.length
   ·rw [if_pos (by omega),if_pos h1]
   ·rw [if_neg (by omega),if_neg h1]
    by_cases h2:1000<t.Rows.length
    ·rw [if_pos (by omega),if_pos h2]
    ·rw [if_neg (by omega),if_neg h2]
     refine names_loop (l:=t.Attrs) (L:=fun i=>L1 t i _) (P:=rowsF t.Attrs.length 0 t.Rows=if namesF t.Attrs=true then rowsF t.Attrs.length 0 t.Rows else 1) (Q:=(1:Int)=if namesF t.Attrs=true then rowsF t.Attrs.length 0 t.Rows else 1) ?_ ?_ ?_ ?_
     ·intro h;apply L1_step;rw [if_neg (by omega)]
      exact rows (φ:=fun r=>r=if namesF t.Attrs=true then rowsF t.Attrs.length 0 t.Rows else 1) (by omega) (by omega) h
     ·intro k a ha hk h
      apply L1_step
      rw [if_pos (by omega)]
      refine ⟨a,lget_of ha,_,table_isName.spec,?_⟩
      split
      ·rename_i h1;rw [if_pos h1] at h
       refine ⟨by omega,by omega,_,slices_Contains_sstring_string.spec (by rw [List.length_take];unfold Big;omega),?_⟩
       rw [Int.toNat_natCast,Nat.sub_zero,wrap_succ (by omega)]
       exact h
      ·rename_i h1;rw [if_neg h1] at h;exact h
     ·intro h;rw [if_pos h]
     ·intro h;rw [if_neg (by rw [h];decide)]
  ·rfl)
 rw [← h1];exact h2
end table_Valid
end Go.Own
namespace Go.Own
namespace attrset_Members
theorem loop {φ:List Int→Prop}:∀ (n:Nat) (acc:List Int),n<2^32→acc.length+(bitsOf n).length≤1000→φ (acc++(bitsOf n).map fun (i:Nat)=>(i:Int))→L1 n acc φ:=by
 intro n
 induction n using Nat.strongRecOn with
 | _ n ih=>
  intro acc hn hl h
  apply L1_step
  by_cases h0:n=0
  ·subst h0
   rw [bitsOf_zero] at h
   rw [if_pos (by omega)];simpa using h
  ·rw [if_neg (by omega)]
   rw [bitsOf_cons h0 hn] at hl h
   simp only [List.length_cons] at hl
   refine ⟨by omega,by omega,?_⟩
   have e1:IntKind.wrap .u32 ((n:Int)-1)=((n-1:Nat):Int):=by
    have:(n:Int)-1=((n-1:Nat):Int):=by omega
    rw [this]
    exact wrap_top (k:=.u32) (by simp only [top];omega)
   rw [e1,bAnd_nat (k:=.u32) (by simpa [top] using hn) (by simp only [top];omega)]
   refine ih _ (clear_lt h0) _ (Nat.lt_of_le_of_lt Nat.and_le_left hn) (by rw [List.length_append,List.length_singleton];omega) ?_
   have e2:tz32 (n:Int)=((lowest n 32 0:Nat):Int):=by unfold tz32;rw [Int.toNat_natCast]
   rw [e2]
   simpa using h
theorem spec {n:Nat} (hn:n<2^32):C n ((bitsOf n).map fun (i:Nat)=>(i:Int)):=by
 obtain ⟨r,h1,h2⟩:=enter n (fun r=>r=(bitsOf n).map fun (i:Nat)=>(i:Int)) (loop n [] hn (by have:=bitsOf_len (n:=n);simp;omega) (by simp))
 rw [← h1];exact h2
end attrset_Members
end Go.Own

namespace Go.Own
def be:Nat→Nat→List Int
 | 0,_=>[]
 | j+1,u=>((u / 2^(8*j) % 256:Nat):Int)::be j u
theorem be_len:∀ {j u},(be j u).length=j
 | 0,_=>rfl
 | j+1,u=>by simp [be,be_len]
theorem be_range:∀ {j u},∀ x∈be j u,0≤x∧x<256
 | 0,_,_,h=>by simp [be] at h
 | j+1,u,x,h=>by
  simp only [be,List.mem_cons] at h
  rcases h with rfl | h
  ·omega
  ·exact be_range x h
theorem be_inj:∀ {j u v},be j u=be j v→u % 2^(8*j)=v % 2^(8*j)
 | 0,u,v,_=>by simp [Nat.mod_one]
 | j+1,u,v,h=>by
  simp only [be,List.cons.injEq] at h
  have ih:=be_inj h.2
  have e:2^(8*(j+1))=2^(8*j)*256:=by rw [Nat.mul_add,Nat.pow_add]
  rw [e,Nat.mod_mul,Nat.mod_mul,ih]
  have:u / 2^(8*j) % 256=v / 2^(8*j) % 256:=by omega
  rw [this]
def flip63 (n:Int):Nat:=(n % 18446744073709551616).toNat ^^^ 9223372036854775808
theorem flip63_lt {n:Int}:flip63 n<2^64:=Nat.xor_lt_two_pow (by omega) (by decide)
theorem flip63_inj {m n:Int} (hm : -9223372036854775808≤m∧m<9223372036854775808) (hn : -9223372036854775808≤n∧n<9223372036854775808) (h:flip63 m=flip63 n):m=n:=by
 unfold flip63 at h
 have h2:(m % 18446744073709551616).toNat=(n % 18446744073709551616).toNat:=by
  have:=congrArg (· ^^^ 9223372036854775808) h
  simpa [Nat.xor_assoc] using this
 omega
namespace value_number
theorem loop {φ:List Int→Prop} {u:Nat} (hu:u<2^64):∀ (j:Nat) (acc:List Int),j≤8→acc.length+j≤1000→φ (acc++be j u)→L1 acc u (8*(j:Int)-8) φ
 | 0,acc,hj,hl,h=>by
  apply L1_step
  rw [if_neg (by omega)]
  simpa [be] using h
 | j+1,acc,hj,hl,h=>by
  apply L1_step
  rw [if_pos (by omega)]
  refine ⟨by omega,by omega,?_⟩
  have e1:8*((j+1:Nat):Int)-8=((8*j:Nat):Int):=by omega
  rw [e1,shrw_nat (k:=.u64) (by simpa [top] using hu),IntKind.wrap_u8,wrap_id (by omega) (by omega)]
  have e2:((8*j:Nat):Int)-8=8*(j:Int)-8:=by omega
  rw [e2]
  refine loop hu j _ (by omega) (by simp;omega) ?_
  have e3:((u / 2^(8*j):Nat):Int) % 256=((u / 2^(8*j) % 256:Nat):Int):=by omega
  rw [e3]
  simpa [be] using h
theorem spec {n:Int} {acc:List Int} (hl:acc.length≤900):C n acc (acc++be 8 (flip63 n)):=by
 obtain ⟨r,h1,h2⟩:=enter n acc (fun r=>r=acc++be 8 (flip63 n)) (by
  have e:bXor .u64 (IntKind.wrap .u64 n) 9223372036854775808=(flip63 n:Int):=by
   have e1:IntKind.wrap .u64 n=(((n % 18446744073709551616).toNat:Nat):Int):=by
    simp only [IntKind.wrap,IntKind.bits,IntKind.signed];simp;omega
   rw [e1]
   exact bXor_nat (k:=.u64) (b:=9223372036854775808) (by simp only [top];omega) (by simp only [top];omega)
  rw [e]
  exact loop flip63_lt 8 acc (by omega) (by omega) rfl)
 rw [← h1];exact h2
end value_number
def esc:List UInt8→List Int
 | []=>[]
 | b::r=>if u8i b=0 then 0::255::esc r else u8i b::esc r
theorem esc_snoc {l:List UInt8} {b:UInt8}:esc (l++[b])=esc l++esc [b]:=by
 induction l with
 | nil=>rfl
 | cons a l ih=>simp only [List.cons_append,esc,ih];split<;>rfl
theorem esc_range:∀ {l:List UInt8},∀ x∈esc l,0≤x∧x<256
 | [],x,h=>by simp [esc] at h
 | b::r,x,h=>by
  simp only [esc] at h
  split at h
  ·simp only [List.mem_cons] at h
   rcases h with rfl | rfl | h
   ·omega
   ·omega
   ·exact esc_range x h
  ·simp only [List.mem_cons] at h
   rcases h with rfl | h
   ·exact u8i_lt
   ·exact esc_range x h
theorem esc_len:∀ {l:List UInt8},(esc l).length≤2*l.length
 | []=>by simp [esc]
 | b::r=>by
  have:=esc_len (l:=r)
  simp only [esc]
  split<;>simp only [List.length_cons]<;>omega
theorem esc_inj:∀ {a b:List UInt8} {r s:List Int},esc a++(0::1::r)=esc b++(0::1::s)→a=b∧r=s
 | [],[],r,s,h=>by simpa [esc] using h
 | [],y::b,r,s,h=>by
  simp only [esc] at h
  split at h
  ·simp at h
  ·rename_i hy
   simp only [List.nil_append,List.cons_append,List.cons.injEq] at h
   exact absurd h.1.symm hy
 | x::a,[],r,s,h=>by
  simp only [esc] at h
  split at h
  ·simp at h
  ·rename_i hx
   simp only [List.nil_append,List.cons_append,List.cons.injEq] at h
   exact absurd h.1 hx
 | x::a,y::b,r,s,h=>by
  simp only [esc] at h
  split at h
  ·rename_i hx
   split at h
   ·rename_i hy
    simp only [List.cons_append,List.cons.injEq,true_and] at h
    obtain ⟨h1,h2⟩:=esc_inj h
    exact ⟨by rw [h1,u8i_inj.1 (hx.trans hy.symm)],h2⟩
   ·rename_i hy
    simp only [List.cons_append,List.cons.injEq] at h
    exact absurd h.1.symm hy
  ·rename_i hx
   split at h
   ·rename_i hy
    simp only [List.cons_append,List.cons.injEq] at h
    exact absurd h.1 hx
   ·rename_i hy
    simp only [List.cons_append,List.cons.injEq] at h
    obtain ⟨h1,h2⟩:=esc_inj h.2
    exact ⟨by rw [h1,u8i_inj.1 h.1],h2⟩
def keyJ (v:api_Value):List Int:=v.Kind::(if v.Kind=1∨v.Kind=3 then be 8 (flip63 v.Num) else if v.Kind=2 then esc v.Str.toList++[0,1] else [])
def NumOK (v:api_Value):Prop:=-9223372036854775808≤v.Num∧v.Num<9223372036854775808
theorem validV_cases {v:api_Value} (h:validV v=true):v.Kind=0∧v.Num=0∧v.Str.toList=[]∨v.Kind=1∧v.Str.toList=[]∨v.Kind=2∧v.Num=0∧v.Str.toList.length≤200∨v.Kind=3∧1≤v.Num∧v.Str.toList=[]:=by
 simpa [validV] using h
theorem keyI_range {v:api_Value} (h:validV v=true):∀ x∈keyJ v,0≤x∧x<256:=by
 intro x hx
 have hk:0≤v.Kind∧v.Kind≤3:=by rcases validV_cases h with h | h | h | h<;>omega
 simp only [keyJ,List.mem_cons] at hx
 rcases hx with rfl | hx
 ·omega
 ·split at hx
  ·exact be_range x hx
  ·split at hx
   ·rcases List.mem_append.1 hx with hx | hx
    ·exact esc_range x hx
    ·simp at hx;rcases hx with rfl | rfl<;>omega
   ·simp at hx
theorem keyI_len {v:api_Value} (h:validV v=true):(keyJ v).length≤403:=by
 simp only [keyJ,List.length_cons]
 split
 ·rw [be_len];omega
 ·split
  ·have:=esc_len (l:=v.Str.toList)
   have:v.Str.toList.length≤200:=by
    rcases validV_cases h with h | h | h | h
    ·rw [h.2.2];simp
    ·rw [h.2];simp
    ·exact h.2.2
    ·rw [h.2.2];simp
   simp;omega
  ·simp
theorem keyI_inj {v w:api_Value} {r s:List Int} (hv:validV v=true) (hw:validV w=true) (nv:NumOK v) (nw:NumOK w) (h:keyJ v++r=keyJ w++s):v=w∧r=s:=by
 obtain ⟨k,n,t⟩:=v
 obtain ⟨k',n',t'⟩:=w
 simp only [keyJ,List.cons_append,List.cons.injEq] at h
 obtain ⟨rfl,h⟩:=h
 have hv:=validV_cases hv
 have hw:=validV_cases hw
 simp only at hv hw
 simp only [api_Value.mk.injEq,true_and]
 by_cases h1:k=1∨k=3
 ·rw [if_pos h1,if_pos h1] at h
  have h3:=List.append_inj h (by rw [be_len,be_len])
  have h2:=be_inj h3.1
  rw [Nat.mod_eq_of_lt flip63_lt,Nat.mod_eq_of_lt flip63_lt] at h2
  have e:=flip63_inj nv nw h2
  simp only at e
  refine ⟨⟨e,?_⟩,h3.2⟩
  rw [← bl_inj]
  have a1:t.toList=[]:=by rcases hv with h | h | h | h<;>first | exact h.2.2 | exact h.2 | omega
  have a2:t'.toList=[]:=by rcases hw with h | h | h | h<;>first | exact h.2.2 | exact h.2 | omega
  rw [a1,a2]
 ·rw [if_neg h1,if_neg h1] at h
  by_cases h2:k=2
  ·rw [if_pos h2,if_pos h2,List.append_assoc,List.append_assoc] at h
   obtain ⟨e1,e2⟩:=esc_inj h
   rw [bl_inj] at e1
   exact ⟨⟨by omega,e1⟩,e2⟩
  ·rw [if_neg h2,if_neg h2] at h
   have a1:t.toList=[]:=by rcases hv with h | h | h | h<;>first | exact h.2.2 | exact h.2 | omega
   have a2:t'.toList=[]:=by rcases hw with h | h | h | h<;>first | exact h.2.2 | exact h.2 | omega
   exact ⟨⟨by omega,by rw [← bl_inj,a1,a2]⟩,by simpa using h⟩
def keyW (v:api_Value):ByteArray:=bstrI (keyJ v)
namespace value_Key
theorem loop {v:api_Value} {φ:ByteArray×Int→Prop} (hk:v.Kind=2) (hs:v.Str.toList.length≤200) (h:φ (keyW v,0)):∀ (r:List UInt8) (k:Nat),v.Str.toList.drop k=r→k≤v.Str.toList.length→L1 v (2::esc (v.Str.toList.take k)) k φ:=by
 intro r
 induction r with
 | nil=>
  intro k hd hk2
  apply L1_step
  have:=drop_ge hd
  rw [bsize_eq,if_neg (by omega),List.take_of_length_le this]
  have hl:=esc_len (l:=v.Str.toList)
  have e:keyJ v=(2::esc v.Str.toList)++[0,1]:=by simp [keyJ,hk]
  refine ⟨by simp only [List.length_cons];omega,fun x hx=>?_,?_⟩
  ·rcases List.mem_append.1 hx with hx | hx
   ·rcases List.mem_cons.1 hx with rfl | hx
    ·omega
    ·exact esc_range x hx
   ·simp at hx;rcases hx with rfl | rfl<;>omega
  ·rw [← e];exact h
 | cons b r ih=>
  intro k hd hk2
  have hlt:=drop_lt hd
  apply L1_step
  rw [bsize_eq,if_pos (by omega)]
  have hl:=esc_len (l:=v.Str.toList.take k)
  rw [List.length_take] at hl
  refine ⟨b,bget_of (drop_get hd),by simp only [List.length_cons];omega,b,bget_of (drop_get hd),?_⟩
  have ih:=ih (k+1) (drop_next hd) hlt
  have e:v.Str.toList.take (k+1)=v.Str.toList.take k++[b]:=by rw [List.take_add_one,drop_get hd];rfl
  rw [e,esc_snoc] at ih
  have next:∀ l,l=2::(esc (v.Str.toList.take k)++esc [b])→L4 v l k φ:=by
   rintro _ rfl
   apply L4_step
   rw [wrap_succ (by omega)]
   exact ih
  split
  ·rename_i h0
   refine ⟨by simp only [List.length_append,List.length_cons,List.length_nil];omega,next _ ?_⟩
   simp [esc,h0]
  ·rename_i h0
   exact next _ (by simp [esc,h0])
theorem spec {v:api_Value} (hv:validV v=true):C v (keyW v,0):=by
 obtain ⟨r,h1,h2⟩:=enter v (fun r=>r=(keyW v,0)) (by
  refine ⟨_,value_Valid.spec,?_⟩
  rw [if_pos hv]
  have hc:=validV_cases hv
  have hk:0≤v.Kind∧v.Kind≤3:=by rcases hc with h | h | h | h<;>omega
  have ek:IntKind.wrap .u8 v.Kind=v.Kind:=by rw [IntKind.wrap_u8];omega
  have two:∀ b,(v.Kind=1∨v.Kind=3)→L2 v b fun r=>r=(keyW v,0):=by
   intro b hb
   apply L2_step
   rw [ek]
   have e:keyJ v=[v.Kind]++be 8 (flip63 v.Num):=by simp [keyJ,hb]
   refine ⟨_,value_number.spec (by simp),?_,?_⟩
   ·rw [← e];exact keyI_range hv
   ·rw [← e];rfl
  have three:¬ (v.Kind=1∨v.Kind=3)→L3 v fun r=>r=(keyW v,0):=by
   intro hb
   apply L3_step
   rw [ek]
   split
   ·rename_i h2
    have hs:v.Str.toList.length≤200:=by
     rcases hc with h | h | h | h
     ·omega
     ·omega
     ·exact h.2.2
     ·omega
    have:=loop (φ:=fun r=>r=(keyW v,0)) h2 hs rfl v.Str.toList 0 rfl (by omega)
    rw [h2]
    simpa [esc] using this
   ·rename_i h2
    refine ⟨fun x hx=>by simp at hx;omega,?_⟩
    simp [keyW,keyJ,hb,h2]
  split
  ·rename_i h1;exact two _ (.inl h1)
  ·rename_i h1
   split
   ·rename_i h3;exact two _ (.inr h3)
   ·rename_i h3;exact three (by omega))
 rw [← h1];exact h2
end value_Key
def b8 (x:Int):UInt8:=UInt8.ofNat x.toNat
theorem b8_inj {x y:Int} (hx:0≤x∧x<256) (hy:0≤y∧y<256) (h:b8 x=b8 y):x=y:=by
 unfold b8 at h
 have:=congrArg UInt8.toNat h
 simp at this
 omega
theorem map_b8_inj:∀ {l m:List Int},(∀ x∈l,0≤x∧x<256)→(∀ x∈m,0≤x∧x<256)→l.map b8=m.map b8→l=m
 | [],[],_,_,_=>rfl
 | [],_::_,_,_,h=>by simp at h
 | _::_,[],_,_,h=>by simp at h
 | x::l,y::m,h1,h2,h=>by
  simp only [List.map_cons,List.cons.injEq] at h
  rw [b8_inj (h1 x (by simp)) (h2 y (by simp)) h.1,map_b8_inj (fun z hz=>h1 z (by simp [hz])) (fun z hz=>h2 z (by simp [hz])) h.2]
theorem keyS_list {v:api_Value}:(keyW v).data.toList=(keyJ v).map b8:=by
 unfold keyW bstrI b8;simp
theorem keyS_size {v:api_Value}:(keyW v).size=(keyJ v).length:=by
 have:(keyW v).size=(keyW v).data.toList.length:=rfl
 rw [this,keyS_list,List.length_map]
def keysI (l:List api_Value):List Int:=l.flatMap keyJ
theorem keysI_range {l:List api_Value} (h:∀ v∈l,validV v=true):∀ x∈keysI l,0≤x∧x<256:=by
 intro x hx
 obtain ⟨v,hv,hx⟩:=List.mem_flatMap.1 hx
 exact keyI_range (h v hv) x hx
theorem keysI_inj:∀ {l m:List api_Value},l.length=m.length→(∀ v∈l,validV v=true∧NumOK v)→(∀ v∈m,validV v=true∧NumOK v)→keysI l=keysI m→l=m
 | [],[],_,_,_,_=>rfl
 | [],_::_,h,_,_,_=>by simp at h
 | _::_,[],h,_,_,_=>by simp at h
 | v::l,w::m,hl,h1,h2,h=>by
  simp only [keysI,List.flatMap_cons] at h
  have a:=h1 v (by simp);have b:=h2 w (by simp)
  obtain ⟨e1,e2⟩:=keyI_inj a.1 b.1 a.2 b.2 h
  rw [e1,keysI_inj (by simpa using hl) (fun z hz=>h1 z (by simp [hz])) (fun z hz=>h2 z (by simp [hz])) e2]
def keysW (l:List api_Value):ByteArray:=bstr ((keysI l).map b8)
theorem keysS_inj {l m:List api_Value} (hl:l.length=m.length) (h1:∀ v∈l,validV v=true∧NumOK v) (h2:∀ v∈m,validV v=true∧NumOK v):keysW l=keysW m↔l=m:=by
 constructor
 ·intro h
  have h3:(keysI l).map b8=(keysI m).map b8:=by
   have:=congrArg ByteArray.toList h
   unfold keysW at this
   rwa [bl_bstr,bl_bstr] at this
  exact keysI_inj hl h1 h2 (map_b8_inj (keysI_range fun v hv=>(h1 v hv).1) (keysI_range fun v hv=>(h2 v hv).1) h3)
 ·rintro rfl;rfl
end Go.Own
namespace Go.Own
def pick (l:List api_Value) (n:Nat):List api_Value:=(bitsOf n).filterMap fun i=>l[i]?
def agreeF (a b:List api_Value) (n:Nat):Bool:=decide (pick a n=pick b n)
theorem fm_eq {a b:List api_Value} (hl:a.length=b.length):∀ {l:List Nat},(l.filterMap fun i=>a[i]?)=(l.filterMap fun i=>b[i]?)↔∀ i∈l,a[i]? = b[i]?
 | []=>by simp
 | k::l=>by
  have ih:=fm_eq (a:=a) (b:=b) hl (l:=l)
  by_cases h:k<a.length
  ·have e1:=List.getElem?_eq_getElem h
   have e2:=List.getElem?_eq_getElem (l:=b) (i:=k) (by omega)
   simp only [List.filterMap_cons,e1,e2,List.cons.injEq,ih,List.forall_mem_cons,Option.some.injEq]
  ·have e1:a[k]? = none:=List.getElem?_eq_none (by omega)
   have e2:b[k]? = none:=List.getElem?_eq_none (by omega)
   simp only [List.filterMap_cons,e1,e2,ih,List.forall_mem_cons,true_and]
theorem agree_iff {a b:List api_Value} {n:Nat} (hn:n<2^32) (hl:a.length=b.length):agreeF a b n=true↔∀ i,n.testBit i=true→a[i]? = b[i]?:=by
 unfold agreeF pick
 rw [decide_eq_true_iff,fm_eq hl]
 constructor
 ·exact fun h i hi=>h i ((bitsOf_mem hn).2 hi)
 ·exact fun h i hi=>h i ((bitsOf_mem hn).1 hi)
theorem pick_sub {l:List api_Value} {n:Nat}:∀ v∈pick l n,v∈l:=by
 intro v hv
 obtain ⟨i,_,hi⟩:=List.mem_filterMap.1 hv
 exact List.mem_of_getElem? hi
structure TV (t:api_Table):Prop where
 name:nameF t.Name=true
 na:t.Attrs.length≤16
 nr:t.Rows.length≤1000
 names:namesF t.Attrs=true
 rows:rowsF t.Attrs.length 0 t.Rows=0
theorem tableF_iff {t:api_Table}:tableF t=0↔TV t:=by
 unfold tableF
 constructor
 ·intro h
  split at h
  ·split at h
   ·cases h
   ·split at h
    ·cases h
    ·split at h
     ·rename_i h1 h2 h3 h4
      exact ⟨h1,by omega,by omega,h4,h⟩
     ·cases h
  ·cases h
 ·intro h
  rw [if_pos h.name,if_neg (by have:=h.na;omega),if_neg (by have:=h.nr;omega),if_pos h.names]
  exact h.rows
theorem rowsF_row {n:Nat}:∀ {l:List api_Row} {last:Int},rowsF n last l=0→∀ r∈l,r.Values.length=n∧(∀ v∈r.Values,validV v=true)∧last<r.ID
 | [],_,_,r,hr=>by cases hr
 | a::l,last,h,r,hr=>by
  simp only [rowsF] at h
  split at h
  ·cases h
  ·split at h
   ·split at h
    ·rename_i h1 h2 h3
     unfold validsF at h3
     rw [List.all_eq_true] at h3
     rcases List.mem_cons.1 hr with rfl | hr
     ·exact ⟨h2,h3,by omega⟩
     ·obtain ⟨e1,e2,e3⟩:=rowsF_row h r hr
      exact ⟨e1,e2,by omega⟩
    ·cases h
   ·cases h
theorem TV.len {t:api_Table} (h:TV t) {r:api_Row} (hr:r∈t.Rows):r.Values.length=t.Attrs.length:=(rowsF_row h.rows r hr).1
theorem TV.val {t:api_Table} (h:TV t) {r:api_Row} (hr:r∈t.Rows):∀ v∈r.Values,validV v=true:=(rowsF_row h.rows r hr).2.1
def TNum (t:api_Table):Prop:=∀ r∈t.Rows,∀ v∈r.Values,NumOK v
end Go.Own
namespace Go.Own
def picks (t:api_Table) (n:Nat):List (List api_Value):=t.Rows.map fun r=>pick r.Values n
theorem picks_len {t:api_Table} {n:Nat}:(picks t n).length=t.Rows.length:=by simp [picks]
theorem pick_iff {t:api_Table} (ht:TV t) {n i j:Nat} (hn:n<2^32) (hi:i<t.Rows.length) (hj:j<t.Rows.length):(picks t n)[i]? = (picks t n)[j]?↔∀ k,n.testBit k=true→(t.Rows[i]'hi).Values[k]? = (t.Rows[j]'hj).Values[k]?:=by
 unfold picks
 rw [List.getElem?_map,List.getElem?_map,List.getElem?_eq_getElem hi,List.getElem?_eq_getElem hj]
 simp only [Option.map_some,Option.some.injEq]
 rw [← agree_iff hn (by rw [ht.len (List.getElem_mem hi),ht.len (List.getElem_mem hj)])]
 unfold agreeF
 rw [decide_eq_true_iff]
def OkP (t:api_Table) (l r i k:Nat):Prop:=(picks t l)[i]? = (picks t l)[k]?→(picks t r)[i]? = (picks t r)[k]?
def SatP (t:api_Table) (l r:Nat):Prop:=∀ i k,i<t.Rows.length→k<i→OkP t l r i k
theorem SatP.all {t:api_Table} {l r:Nat} (h:SatP t l r) {i k:Nat} (hi:i<t.Rows.length) (hk:k<t.Rows.length):OkP t l r i k:=by
 rcases Nat.lt_trichotomy i k with h1 | h1 | h1
 ·exact fun e=>(h k i hk h1 e.symm).symm
 ·subst h1;exact fun _=>rfl
 ·exact h i k hi h1
def EqA (t:api_Table) (i k a:Nat):Prop:=(t.Rows[i]?.map fun r=>r.Values[a]?)=(t.Rows[k]?.map fun r=>r.Values[a]?)
instance (t:api_Table) (i k a:Nat):Decidable (EqA t i k a):=by unfold EqA;infer_instance
theorem pick_eqA {t:api_Table} (ht:TV t) {n i j:Nat} (hn:n<2^32) (hi:i<t.Rows.length) (hj:j<t.Rows.length):(picks t n)[i]? = (picks t n)[j]?↔∀ k,n.testBit k=true→EqA t i j k:=by
 rw [pick_iff ht hn hi hj]
 unfold EqA
 rw [List.getElem?_eq_getElem hi,List.getElem?_eq_getElem hj]
 simp only [Option.map_some,Option.some.injEq]
theorem sat_iff {t:api_Table} (ht:TV t) {l r:Nat} (hl:l<2^32) (hr:r<2^32):SatP t l r↔∀ i k,i<t.Rows.length→k<i→(∀ a,l.testBit a=true→EqA t i k a)→∀ a,r.testBit a=true→EqA t i k a:=by
 unfold SatP OkP
 constructor
 ·intro h i k hi hk
  have:=h i k hi hk
  rw [pick_eqA ht hl hi (by omega),pick_eqA ht hr hi (by omega)] at this
  exact this
 ·intro h i k hi hk
  rw [pick_eqA ht hl hi (by omega),pick_eqA ht hr hi (by omega)]
  exact h i k hi hk
end Go.Own
namespace Go.Own
theorem fm_len {a b:List api_Value} (hl:a.length=b.length):∀ {l:List Nat},(l.filterMap fun i=>a[i]?).length=(l.filterMap fun i=>b[i]?).length
 | []=>rfl
 | k::l=>by
  have ih:=fm_len (a:=a) (b:=b) hl (l:=l)
  by_cases h:k<a.length
  ·have e1:=List.getElem?_eq_getElem h
   have e2:=List.getElem?_eq_getElem (l:=b) (i:=k) (by omega)
   simp only [List.filterMap_cons,e1,e2,List.length_cons,ih]
  ·have e1:a[k]? = none:=List.getElem?_eq_none (by omega)
   have e2:b[k]? = none:=List.getElem?_eq_none (by omega)
   simp only [List.filterMap_cons,e1,e2,ih]
def ofP (t:api_Table) (n:Nat):api_Partition:=part (picks t n)
theorem ofP_keys {t:api_Table} {n:Nat} (h:TV t) (hn:TNum t):part (t.Rows.map fun r=>keysW (pick r.Values n))=ofP t n:=by
 unfold ofP picks
 refine zip_alike (by simp) fun i j hi hj=>?_
 rw [List.length_map] at hi hj
 rw [List.getElem?_map,List.getElem?_map,List.getElem?_map,List.getElem?_map,List.getElem?_eq_getElem hi,List.getElem?_eq_getElem hj]
 simp only [Option.map_some,Option.some.injEq]
 have m1:=List.getElem_mem hi
 have m2:=List.getElem_mem hj
 refine keysS_inj (fm_len (by rw [h.len m1,h.len m2])) (fun v hv=>?_) (fun v hv=>?_)
 ·exact ⟨h.val m1 v (pick_sub v hv),hn _ m1 v (pick_sub v hv)⟩
 ·exact ⟨h.val m2 v (pick_sub v hv),hn _ m2 v (pick_sub v hv)⟩
namespace partition_of
theorem inner {t:api_Table} {n:Nat} {φ:api_Partition→Prop} {ks:List ByteArray} {k:Nat} {r:api_Row} (ht:TV t) (hn:n<2^t.Attrs.length) (hr:r∈t.Rows) (hk:k<1000) (hkk:k<ks.length)
  (h:L1 t ((bitsOf n).map fun (i:Nat)=>(i:Int)) (ks.set k (keysW (pick r.Values n))) ((k+1:Nat):Int) φ):∀ j,j≤(bitsOf n).length →
  L2 t ((bitsOf n).map fun (i:Nat)=>(i:Int)) ks k r ((keysI (((bitsOf n).take j).filterMap fun i=>r.Values[i]?)).map b8) k j φ:=by
 have hn32:n<2^32:=Nat.lt_of_lt_of_le hn (Nat.pow_le_pow_right (by decide) (by have:=ht.na;omega))
 have hl:=bitsOf_len (n:=n)
 refine down ?_ ?_
 ·apply L2_step
  rw [List.length_map,if_neg (by omega),List.take_length]
  refine ⟨ks[k],by rw [lget_nat];exact List.getElem?_eq_getElem hkk,?_⟩
  rw [wrap_succ (by omega)]
  have e:lset ks (k:Int) (keysW (pick r.Values n))=ks.set k (keysW (pick r.Values n)):=by simp [lset]
  unfold keysW pick at e h
  rw [e];exact h
 ·intro j hj h
  apply L2_step
  rw [List.length_map,if_pos (by omega)]
  have hget:=List.getElem?_eq_getElem hj
  generalize (bitsOf n)[j]=i at hget
  have hi:=(bitsOf_mem hn32).1 (List.mem_of_getElem? hget)
  have hilt:i<t.Attrs.length:=by
   false_or_by_contra
   rename_i hh
   rw [Nat.testBit_lt_two_pow (Nat.lt_of_lt_of_le hn (Nat.pow_le_pow_right (by decide) (by omega)))] at hi
   cases hi
  have hrl:=ht.len hr
  have hv:=List.getElem?_eq_getElem (l:=r.Values) (i:=i) (by omega)
  generalize r.Values[i]'(by omega)=v at hv
  have hval:=ht.val hr v (List.mem_of_getElem? hv)
  refine ⟨(i:Int),by rw [lget_nat,List.getElem?_map,hget];rfl,v,lget_of hv,(keyW v,0),value_Key.spec hval,?_⟩
  have hsum:∀ l:List api_Value,(∀ v∈l,validV v=true)→(keysI l).length≤403*l.length:=by
   intro l
   induction l with
   | nil=>simp [keysI]
   | cons a l ih=>
    intro hh
    have:=ih fun v hv=>hh v (by simp [hv])
    have h2:=keyI_len (hh a (by simp))
    simp only [keysI,List.flatMap_cons,List.length_append,List.length_cons] at this ⊢
    omega
  have h1:=hsum (((bitsOf n).take j).filterMap fun i=>r.Values[i]?) (fun v hv=>by
   obtain ⟨i,_,hi⟩:=List.mem_filterMap.1 hv
   exact ht.val hr v (List.mem_of_getElem? hi))
  have h2:(((bitsOf n).take j).filterMap fun i=>r.Values[i]?).length≤32:=Nat.le_trans (List.length_filterMap_le _ _) (by rw [List.length_take];omega)
  have h3:=keyI_len hval
  refine ⟨?_,?_⟩
  ·rw [List.length_map]
   have:(keyW v).size=(keyJ v).length:=keyS_size
   simp only [this]
   omega
  ·rw [wrap_succ (by omega)]
   have e:(((bitsOf n).take (j+1)).filterMap fun i=>r.Values[i]?)=(((bitsOf n).take j).filterMap fun i=>r.Values[i]?)++[v]:=by
    rw [List.take_add_one,hget,List.filterMap_append]
    simp [hv]
   rw [e] at h
   simp only [keysI,List.flatMap_append,List.map_append] at h
   rw [keyS_list]
   simpa [keysI] using h
theorem spec {t:api_Table} {n:Nat} (ht:TV t) (hnum:TNum t) (hn:n<2^t.Attrs.length):C t n (ofP t n):=by
 have hn32:n<2^32:=Nat.lt_of_lt_of_le hn (Nat.pow_le_pow_right (by decide) (by have:=ht.na;omega))
 have hr:=ht.nr
 obtain ⟨q,h1,h2⟩:=enter t n (fun q=>q=ofP t n) (by
  refine ⟨_,attrset_Members.spec hn32,by omega,?_⟩
  have loop:∀ k,k≤t.Rows.length→L1 t ((bitsOf n).map fun (i:Nat)=>(i:Int)) ((t.Rows.take k).map (fun r=>keysW (pick r.Values n))++List.replicate (t.Rows.length-k) (⟨#[]⟩:ByteArray)) k fun q=>q=ofP t n:=by
   refine down ?_ ?_
   ·apply L1_step
    rw [if_neg (by omega),List.take_length,Nat.sub_self,List.replicate_zero,List.append_nil]
    refine ⟨_,partition_groups_string.spec (by rw [List.length_map];omega),?_⟩
    rw [← ofP_keys ht hnum]
    simp [part]
   ·intro k hk h
    apply L1_step
    rw [if_pos (by omega)]
    have hget:=List.getElem?_eq_getElem hk
    generalize t.Rows[k]=r at hget
    refine ⟨r,lget_of hget,?_⟩
    have:=inner (t:=t) (n:=n) (φ:=fun q=>q=ofP t n) (ks:=(t.Rows.take k).map (fun r=>keysW (pick r.Values n))++List.replicate (t.Rows.length-k) (⟨#[]⟩:ByteArray)) (k:=k) (r:=r) ht hn (List.mem_of_getElem? hget) (by omega) (by simp [List.length_take];omega) (by
     have e:((t.Rows.take k).map (fun r=>keysW (pick r.Values n))++List.replicate (t.Rows.length-k) (⟨#[]⟩:ByteArray)).set k (keysW (pick r.Values n))=(t.Rows.take (k+1)).map (fun r=>keysW (pick r.Values n))++List.replicate (t.Rows.length-(k+1)) (⟨#[]⟩:ByteArray):=by
      have hl:((t.Rows.take k).map (fun r=>keysW (pick r.Values n))).length=k:=by rw [List.length_map,List.length_take];omega
      obtain ⟨m,hm⟩:∃ m,t.Rows.length-k=m+1:=⟨t.Rows.length-k-1,by omega⟩
      rw [List.set_append_right _ _ (by omega),hl,Nat.sub_self,hm,List.replicate_succ,List.set_cons_zero,List.take_add_one,hget]
      have:t.Rows.length-(k+1)=m:=by omega
      rw [this];simp
     rw [e];exact h) 0 (Nat.zero_le _)
    simpa [keysI] using this
  have:=loop 0 (Nat.zero_le _)
  simpa using this)
 rw [← h1];exact h2
end partition_of
theorem partition_within.spec {t:api_Table} {n:Nat} (hn:n<2^32):partition_within.C t n (decide (n<2^t.Attrs.length)):=by
 obtain ⟨q,h1,h2⟩:=partition_within.enter t n (fun q=>q=decide (n<2^t.Attrs.length)) (by
  refine ⟨by omega,?_⟩
  have hn64:n<2^top .u64:=Nat.lt_of_lt_of_le hn (by decide)
  rw [wrap_top hn64,shrw_nat hn64]
  have:(((n / 2^t.Attrs.length:Nat):Int)=0)↔n<2^t.Attrs.length:=by
   have hp:0<2^t.Attrs.length:=Nat.pos_of_ne_zero (by simp)
   constructor
   ·intro h
    have h2:n / 2^t.Attrs.length=0:=by omega
    rw [Nat.div_eq_zero_iff] at h2
    omega
   ·intro h;rw [Nat.div_eq_of_lt h];rfl
  by_cases hh:n<2^t.Attrs.length
  ·simp [hh,this.2 hh]
  ·have h3:¬ ((n / 2^t.Attrs.length:Nat):Int)=0:=fun h=>hh (this.1 h)
   rw [decide_eq_false hh]
   simpa using h3)
 rw [← h1];exact h2
end Go.Own
namespace Go.Own
end Go.Own
namespace Go.Own
theorem RefP_iff {t:api_Table} (hr:t.Rows.length≤1000) {l r:Nat}:RefP (ofP t l) (ofP t r)↔SatP t l r:=by
 have hb:bothF (ofP t l) (ofP t r)=0:=by
  have v1:validF (ofP t l)=true:=part_valid (by rw [picks_len];exact hr)
  have v2:validF (ofP t r)=true:=part_valid (by rw [picks_len];exact hr)
  have e:(ofP t l).Rows=(ofP t r).Rows:=by simp [ofP,part,picks_len]
  simp [bothF,v1,v2,e]
 have er:(ofP t l).Rows=(t.Rows.length:Int):=by simp [ofP,part,picks_len]
 have key:∀ (n i j:Nat),i<t.Rows.length→j<t.Rows.length→(Same (ofP t n) i j↔(picks t n)[i]? = (picks t n)[j]?):=fun n i j hi hj=>by
  unfold ofP
  rw [part_same (by rw [picks_len];omega) (by rw [picks_len];omega),lget_nat,lget_nat]
 constructor
 ·rintro ⟨_,h⟩ i k hi hk e
  exact (key r i k hi (by omega)).1 (h i k (by omega) (by omega) ((key l i k hi (by omega)).2 e))
 ·intro h
  refine ⟨hb,fun i j hi hj hs=>?_⟩
  obtain ⟨i,rfl⟩:∃ n:Nat,i=n:=⟨i.toNat,by omega⟩
  obtain ⟨j,rfl⟩:∃ n:Nat,j=n:=⟨j.toNat,by omega⟩
  exact (key r i j (by omega) (by omega)).2 (h.all (by omega) (by omega) ((key l i j (by omega) (by omega)).1 hs))
def holdsE (t:api_Table) (l r:Nat):Int:=if tableF t=0 then (if l ||| r<2^t.Attrs.length then 0 else 6) else tableF t
theorem partition_Holds.spec {t:api_Table} {fd:api_FD} {l r:Nat} (hnum:TNum t) (el:fd.Lhs=l) (er:fd.Rhs=r) (hl:l<2^32) (hr:r<2^32):∃ q,partition_Holds.C t fd q∧q.2=holdsE t l r∧(q.1=true↔holdsE t l r=0∧SatP t l r):=by
 obtain ⟨q,h1,h2⟩:=partition_Holds.enter t fd (fun q=>q.2=holdsE t l r∧(q.1=true↔holdsE t l r=0∧SatP t l r)) (by
  refine ⟨_,table_Valid.spec,?_⟩
  unfold holdsE
  split
  ·rename_i h0
   have ht:=tableF_iff.1 h0
   rw [el,er,bOr_nat (k:=.u32) (by simpa [top] using hl) (by simpa [top] using hr)]
   refine ⟨_,partition_within.spec (Nat.or_lt_two_pow hl hr),?_⟩
   by_cases hh:l ||| r<2^t.Attrs.length
   ·rw [if_pos (decide_eq_true hh),if_pos hh]
    have hll:l<2^t.Attrs.length:=Nat.lt_of_le_of_lt Nat.left_le_or hh
    have hrr:r<2^t.Attrs.length:=Nat.lt_of_le_of_lt Nat.right_le_or hh
    have sm:∀ m,Small (ofP t m):=fun m=>part_small (by rw [picks_len];exact ht.nr)
    obtain ⟨b,hb,hbi⟩:=partition_Refines.spec (sm l) (sm r)
    refine ⟨_,partition_of.spec ht hnum hll,_,partition_of.spec ht hnum hrr,b,hb,rfl,?_⟩
    rw [hbi,RefP_iff ht.nr];simp
   ·rw [if_neg (by simpa using hh),if_neg hh];simp
  ·rename_i h0;simp [h0])
 exact ⟨q,h2,h1⟩
end Go.Own
namespace Go.Own
theorem mem_contains {l:List Int} {x:Int} (hn:l.length<1000000000):slices_Contains_sapi_Set_api_Set.C l x (decide (x∈l)):=by
 have am:(l.any fun a=>decide (x=a))=decide (x∈l):=by
  rw [Bool.eq_iff_iff,List.any_eq_true,decide_eq_true_eq]
  constructor
  ·rintro ⟨a,ha,h⟩;rw [of_decide_eq_true h];exact ha
  ·intro h;exact ⟨x,h,decide_eq_true rfl⟩
 obtain ⟨q,g1,g2⟩:=slices_Index_sapi_Set_api_Set.enter l x (fun r=>r=ixI (fun a=>decide (x=a)) l) (by
  refine index_loop (l:=l) (p:=fun a=>decide (x=a)) (L:=fun i=>slices_Index_sapi_Set_api_Set.L1 l x i _) (φ:=fun r=>r=ixI (fun a=>decide (x=a)) l) ?_ ?_ rfl
  ·intro h;apply slices_Index_sapi_Set_api_Set.L1_step;rw [if_neg (by omega)];exact h
  ·intro k a ha hk h
   apply slices_Index_sapi_Set_api_Set.L1_step
   rw [if_pos (by omega)]
   refine ⟨a,lget_of ha,?_⟩
   rw [wrap_succ (by omega)]
   by_cases hx:x=a
   ·rw [if_pos hx];rw [if_pos (decide_eq_true hx)] at h;exact h
   ·rw [if_neg hx];rw [if_neg (by rw [decide_eq_false hx];decide)] at h;exact h)
 subst g1
 obtain ⟨r,h1,h2⟩:=slices_Contains_sapi_Set_api_Set.enter l x (fun r=>r=decide (x∈l)) ⟨_,g2,by rw [ixI_any,am]⟩
 rw [← h1];exact h2
end Go.Own
