/- No conditions. -/
import Derived.Test.YtbmbbljdpnpmeaaGreatDoorTopCoversLaw5
import Derived.Test.YtbmbbljdpnpmeaaGreatDoorTopCoversLaw8
set_option linter.all false
namespace Go.Own
namespace q52_
theorem loop {k:Nat} {φ:Int->Prop} (h:φ (Akr k)):∀ (m i:Nat),i+m=min k 32->L1 k ((2^i-1:Nat):Int) i φ
 | 0,i,hi=>by
  apply L1_step;have e:((2^i-1:Nat):Int)=(Akr k:Int):=by unfold Akr;rw [← hi,Nat.add_zero]
  rw [e]
  split
  ·rw [if_neg (by omega)];exact h
  ·exact h
 | m+1,i,hi=>by
  apply L1_step;rw [if_pos (by omega),if_pos (by omega)];refine ⟨by omega,?_⟩;have hp:2^(i+1)<=2^32:=Nat.pow_le_pow_right (by decide) (by omega);have h2:0<2^i:=Nat.pos_of_ne_zero (by simp);rw [Nat.pow_succ] at hp;rw [Agl (k:=.u32) (by simp only [top];omega),Ajj (k:=.u32) (by simp only [top];omega) (by simp only [top];omega),Aa3 (by omega)];have e:(2^i-1) ||| 2^i=2^(i+1)-1:=by
   apply Nat.eq_of_testBit_eq;intro j;rw [Nat.testBit_or,Nat.testBit_two_pow_sub_one,Nat.testBit_two_pow,Nat.testBit_two_pow_sub_one];by_cases h1:j<i
   ·have:j<i+1:=by omega
    simp [h1,this]
   ·by_cases h3:i=j
    ·subst h3;simp
    ·have:¬ j<i+1:=by omega
     simp [h1,h3,this]
  rw [e];exact loop h m (i+1) (by omega)
theorem spec {k:Nat}:C k (Akr k):=by
 obtain ⟨r,h1,h2⟩:=enter k (fun r=>r=(Akr k:Int)) (loop (φ:=fun r=>r=(Akr k:Int)) rfl (min k 32) 0 (by omega));rw [← h1];exact h2
end q52_
def FdOK (l:List api_FD):Prop:=∀ d∈l,U32 d.Lhs/\U32 d.Rhs
def inU (n:Nat) (l r:Int):Bool:=decide (sN l<2^n)&&decide (sN r<2^n)
theorem Blv {n:Nat} {l r:Int} (hl:U32 l) (hr:U32 r):(shrw .u32 (bOr .u32 l r) (n:Int)=0)↔inU n l r=true:=by
 rw [hl.eq,hr.eq,Ajj hl.top hr.top,Ae5 (Nat.or_lt_two_pow hl.top hr.top)];unfold inU;rw [Bool.and_eq_true,decide_eq_true_iff,decide_eq_true_iff];have e1:sN (sN l:Int)=sN l:=by unfold sN;omega
 have e2:sN (sN r:Int)=sN r:=by unfold sN;omega
 rw [e1,e2,← Bm3,← Bf8];omega
def fdsE (n:Int) (l:List api_FD):Int:=if n<0∨16<n then 7 else if 64<l.length then 3 else if (l.all fun d=>inU n.toNat d.Lhs d.Rhs)=true then 0 else 1
theorem Bev {α:Type} {l:List α} {p:α->Bool} {L:Int->Prop} {φ:Int->Prop} (stop:φ 0->L (l.length:Int))
  (step:∀ (k:Nat) a,l[k]? = some a->k<l.length->(if p a=true then L ((k+1:Nat):Int) else φ 1)->L k) (h:φ (if l.all p=true then 0 else 1)):L 0:=
 Awn (l:=l) (p:=p) (L:=L) (φ:=fun b=>φ (if b=true then 0 else 1)) (fun h=>stop (by simpa using h)) (fun k a ha hk h=>step k a ha hk (by simpa using h)) h
theorem q71_.spec {n:Int} {l:List api_FD} (hl:FdOK l):q71_.C n l (fdsE n l):=by
 obtain ⟨r,h1,h2⟩:=q71_.enter n l (fun r=>r=fdsE n l) (by
  by_cases a:n<0∨16<n
  ·have e:fdsE n l=7:=if_pos a;rw [e];by_cases b:n<0
   ·rw [if_pos b]
   ·rw [if_neg b,if_pos (by omega)]
  ·rw [if_neg (by omega),if_neg (by omega)];by_cases b:64<l.length
   ·have e:fdsE n l=3:=by unfold fdsE;rw [if_neg a,if_pos b]
    rw [e,if_pos (by omega)]
   ·have e:fdsE n l=if (l.all fun d=>inU n.toNat d.Lhs d.Rhs)=true then 0 else 1:=by unfold fdsE;rw [if_neg a,if_neg b]
    rw [e,if_neg (by omega)]
    ·obtain ⟨m,rfl⟩:∃ m:Nat,n=m:=⟨n.toNat,by omega⟩
     refine Bev (l:=l) (p:=fun d=>inU m d.Lhs d.Rhs) (L:=fun i=>q71_.L1 m l i _) (φ:=fun r=>r=_) ?_ ?_ rfl
     ·intro h;apply q71_.L1_step;rw [if_neg (by omega)];exact h
     ·intro k d hd hk h;apply q71_.L1_step;rw [if_pos (by omega)];refine ⟨d,Ad4 hd,by omega,?_⟩;have hd':=hl d (List.mem_of_getElem? hd);have e:=Blv (n:=m) hd'.1 hd'.2;rw [Aa3 (by omega)]
      split
      ·rename_i hh;rw [if_pos (e.1 hh)] at h;exact h
      ·rename_i hh;rw [if_neg (fun h3=>hh (e.2 h3))] at h;exact h)
 rw [← h1];exact h2
theorem Bkd {n:Int} {l:List api_FD} (h:fdsE n l=0):0<=n/\n<=16:=by
 unfold fdsE at h
 split at h
 ·cases h
 ·omega
def Adj:List api_FD->Nat->Nat
 | [],s=>s
 | d::l,s=>Adj l (if sN d.Lhs &&& s=sN d.Lhs then s ||| sN d.Rhs else s)
def Agf (l:List api_FD):Nat->Nat->Nat
 | 0,s=>s
 | k+1,s=>Agf l k (Adj l s)
def cloN (l:List api_FD) (s:Nat):Nat:=Agf l 33 s
def subN (a b:Nat):Prop:=∀ i,a.testBit i=true->b.testBit i=true
theorem Al5 (a:Nat):subN a a:=fun _ h=>h
theorem Aet {a b c:Nat} (h:subN a b) (k:subN b c):subN a c:=fun i hi=>k i (h i hi)
theorem Ba9 {a b:Nat}:subN a (a ||| b):=fun i hi=>by rw [Nat.testBit_or,hi];rfl
theorem Al4 {a b:Nat} (h:subN a b) (k:subN b a):a=b:=Nat.eq_of_testBit_eq fun i=>by
 cases ha:a.testBit i with
 | true=>exact (h i ha).symm
 | false=>
  cases hb:b.testBit i with
  | true=>rw [k i hb] at ha;cases ha
  | false=>rfl
theorem Ai5:∀ {l:List api_FD} {s:Nat},subN s (Adj l s)
 | [],s=>Al5 s
 | d::l,s=>by
  rw [Adj]
  split
  ·exact Aet Ba9 Ai5
  ·exact Ai5
theorem Ai4:∀ {l:List api_FD} {s n:Nat},s<2^n->(∀ d∈l,sN d.Rhs<2^n)->Adj l s<2^n
 | [],_,_,h,_=>h
 | d::l,s,n,h,hl=>by
  rw [Adj];refine Ai4 ?_ fun x hx=>hl x (by simp [hx])
  split
  ·exact Nat.or_lt_two_pow h (hl d (by simp))
  ·exact h
def Ad3 (l:List api_FD) (s:Nat):Prop:=∀ d∈l,subN (sN d.Lhs) s->subN (sN d.Rhs) s
theorem Aou:∀ {l:List api_FD} {s c:Nat},subN s c->Ad3 l c->subN (Adj l s) c
 | [],_,_,h,_=>h
 | d::l,s,c,h,hc=>by
  rw [Adj];have hc':Ad3 l c:=fun x hx=>hc x (by simp [hx])
  split
  ·rename_i hs;refine Aou (fun i hi=>?_) hc';rw [Nat.testBit_or,Bool.or_eq_true] at hi;rcases hi with hi | hi
   ·exact h i hi
   ·exact hc d (by simp) (Aet (Ado.1 hs) h) i hi
  ·exact Aou h hc'
theorem Avh:∀ {l:List api_FD} {s:Nat},Adj l s=s->Ad3 l s
 | [],_,_=>fun d hd=>by cases hd
 | d::l,s,h=>by
  rw [Adj] at h;have h1:(if sN d.Lhs &&& s=sN d.Lhs then s ||| sN d.Rhs else s)=s:=by
   refine Al4 ?_ ?_
   ·have:=Ai5 (l:=l) (s:=if sN d.Lhs &&& s=sN d.Lhs then s ||| sN d.Rhs else s);rw [h] at this;exact this
   ·split
    ·exact Ba9
    ·exact Al5 s
  rw [h1] at h;intro x hx hs;rcases List.mem_cons.1 hx with rfl | hx
  ·rw [if_pos (Ado.2 hs)] at h1;intro i hi;rw [← h1,Nat.testBit_or,hi,Bool.or_true]
  ·exact Avh h x hx hs
theorem Aot {l:List api_FD} {s:Nat} (h:Adj l s=s):∀ k,Agf l k s=s
 | 0=>rfl
 | k+1=>by rw [Agf,h];exact Aot h k
theorem Bee {a b:Nat} (hs:subN a b) (hne:a≠b) (hb:b<2^32):szN a<szN b:=by
 have hex:∃ i,b.testBit i=true/\a.testBit i=false:=by
  false_or_by_contra
  rename_i h;refine hne (Al4 hs fun i hi=>?_);cases ha:a.testBit i with
  | true=>rfl
  | false=>exact absurd ⟨i,hi,ha⟩ h
 obtain ⟨i,h1,h2⟩:=hex;have hmem:i∈Aat b:=(Abq hb).2 h1;have ha:a<2^32:=by
  refine Acm.2 fun j hj=>?_;exact Acm.1 hb j (hs j hj)
 have hsub:(Aat a).length+1<=(Aat b).length:=by
  have hnd:(i::Aat a).Nodup:=by
   rw [List.nodup_cons];refine ⟨fun h=>?_,(Ag9 (n:=a)).imp fun h=>by omega⟩;rw [Abq ha,h2] at h;cases h
  have:(i::Aat a) ⊆ Aat b:=by
   intro x hx;rcases List.mem_cons.1 hx with rfl | hx
   ·exact hmem
   ·exact (Abq hb).2 (hs x ((Abq ha).1 hx))
  exact hnd.length_le_of_subset this
 exact hsub
theorem Ast {l:List api_FD} (hl:∀ d∈l,sN d.Rhs<2^32):∀ {k s:Nat},s<2^32->33<=k+szN s->Adj l (Agf l k s)=Agf l k s
 | 0,s,hs,hk=>by have:=Afu (n:=s);unfold szN at hk;omega
 | k+1,s,hs,hk=>by
  rw [Agf];by_cases h:Adj l s=s
  ·rw [h,Aot h,h]
  ·have:=Bee (Ai5 (l:=l)) (Ne.symm h) (Ai4 hs hl);exact Ast hl (Ai4 hs hl) (by omega)
theorem Ay3 {l:List api_FD}:∀ {k s:Nat},subN s (Agf l k s)
 | 0,s=>Al5 s
 | k+1,s=>Aet Ai5 Ay3
theorem Avg {l:List api_FD} {c:Nat} (hc:Ad3 l c):∀ {k s:Nat},subN s c->subN (Agf l k s) c
 | 0,_,h=>h
 | k+1,_,h=>Avg hc (k:=k) (Aou h hc)
theorem Ay2 {l:List api_FD} {n:Nat} (hl:∀ d∈l,sN d.Rhs<2^n):∀ {k s:Nat},s<2^n->Agf l k s<2^n
 | 0,_,h=>h
 | k+1,_,h=>Ay2 hl (k:=k) (Ai4 h hl)
theorem Apg {l:List api_FD} {s:Nat}:subN s (cloN l s):=Ay3
theorem Ahs {l:List api_FD} {s c:Nat} (h:subN s c) (hc:Ad3 l c):subN (cloN l s) c:=Avg hc h
theorem Aqv {l:List api_FD} {s:Nat} (hl:∀ d∈l,sN d.Rhs<2^32) (hs:s<2^32):Ad3 l (cloN l s):=Avh (Ast hl hs (by omega))
theorem Ath {l:List api_FD} {n s:Nat} (hl:∀ d∈l,sN d.Rhs<2^n) (hs:s<2^n):cloN l s<2^n:=Ay2 hl hs
def pop8 (m:Nat):Nat:=((List.range 8).filter fun i=>m.testBit i).length
theorem Ah2 {n k:Nat}:((List.range 8).map (·+k)).filter (fun i=>n.testBit i)=((List.range 8).filter fun i=>(n / 2^k % 256).testBit i).map (·+k):=by
 rw [List.filter_map];congr 1;refine List.filter_congr fun i hi=>?_;have hi:=List.mem_range.1 hi;simp only [Function.comp];rw [show (256:Nat)=2^8 from rfl,Nat.testBit_mod_two_pow,Nat.testBit_div_two_pow];simp [hi]
theorem Bed (n:Nat):szN n=pop8 (n % 256)+pop8 (n / 2^8 % 256)+pop8 (n / 2^16 % 256)+pop8 (n / 2^24 % 256):=by
 have e:List.range 32=(List.range 8).map (·+0)++(List.range 8).map (·+8)++(List.range 8).map (·+16)++(List.range 8).map (·+24):=by decide
 unfold szN Aat pop8;rw [e,List.filter_append,List.filter_append,List.filter_append,Ah2,Ah2,Ah2,Ah2];simp only [List.length_append,List.length_map,Nat.pow_zero,Nat.div_one]
theorem Bln {n:Nat}:szN n<=32:=Afu
theorem Bk6 (a:Nat):a &&& 255=a % 256:=Nat.and_two_pow_sub_one_eq_mod a 8
theorem Am0 {m:Nat}:pop8 m<=8:=by
 unfold pop8;exact Nat.le_trans (List.length_filter_le _ _) (by simp)
theorem Apt {m:Nat}:u8i (UInt8.ofNat (pop8 m))=(pop8 m:Int):=by
 unfold u8i;rw [UInt8.toNat_ofNat'];have:=Am0 (m:=m);omega
theorem q31_.spec {n:Nat} (hn:n<2^32):q31_.C n (szN n:Int):=by
 obtain ⟨r,h1,h2⟩:=q31_.enter n (fun r=>r=(szN n:Int)) (by
  have ht:n<2^top .u32:=by simpa [top] using hn
  have e24:=Ae5 (k:=.u32) (a:=n) (i:=24) ht;have e16:=Ae5 (k:=.u32) (a:=n) (i:=16) ht;have e8:=Ae5 (k:=.u32) (a:=n) (i:=8) ht;rw [show ((24:Nat):Int)=24 from rfl] at e24;rw [show ((16:Nat):Int)=16 from rfl] at e16;rw [show ((8:Nat):Int)=8 from rfl] at e8;have a255:∀ a:Nat,a<2^32->bAnd .u32 (a:Int) 255=((a % 256:Nat):Int):=fun a ha=>by
   have:=Aem (k:=.u32) (a:=a) (b:=255) (by simpa [top] using ha) (by simp only [top];omega);rw [show ((255:Nat):Int)=255 from rfl] at this;rw [this,Bk6]
  rw [e24,e16,e8,a255 _ (Nat.lt_of_le_of_lt (Nat.div_le_self _ _) hn),a255 _ (Nat.lt_of_le_of_lt (Nat.div_le_self _ _) hn),a255 _ hn];have h24:n / 2^24<256:=by omega
  have em:n / 2^24=n / 2^24 % 256:=(Nat.mod_eq_of_lt h24).symm;have hs:=Bed n;rw [em];have m1:n / 2^24 % 256<256:=Nat.mod_lt _ (by omega);have m2:n / 2^16 % 256<256:=Nat.mod_lt _ (by omega);have m3:n / 2^8 % 256<256:=Nat.mod_lt _ (by omega);have m4:n % 256<256:=Nat.mod_lt _ (by omega);generalize n / 2^24 % 256=q1 at *;generalize n / 2^16 % 256=q2 at *;generalize n / 2^8 % 256=q3 at *;generalize n % 256=q4 at *;clear hn ht e24 e16 e8 a255 h24 em;refine ⟨UInt8.ofNat (pop8 q1),⟨by omega,?_⟩,UInt8.ofNat (pop8 q2),⟨by omega,?_⟩,UInt8.ofNat (pop8 q3),⟨by omega,?_⟩,UInt8.ofNat (pop8 q4),⟨by omega,?_⟩,?_⟩
  ·rw [Int.toNat_natCast];clear hs m2 m3 m4
   revert q1
   decide +kernel
  ·rw [Int.toNat_natCast];clear hs m1 m3 m4
   revert q2
   decide +kernel
  ·rw [Int.toNat_natCast];clear hs m1 m2 m4
   revert q3
   decide +kernel
  ·rw [Int.toNat_natCast];clear hs m1 m2 m3
   revert q4
   decide +kernel
  ·rw [Apt,Apt,Apt,Apt];have b1:=Am0 (m:=q1);have b2:=Am0 (m:=q2);have b3:=Am0 (m:=q3);have b4:=Am0 (m:=q4);have w8:∀ a b:Nat,a+b<256->IntKind.wrap .u8 ((a:Int)+(b:Int))=((a+b:Nat):Int):=fun a b h=>by
    rw [show (a:Int)+(b:Int)=((a+b:Nat):Int) by omega];exact Abx (k:=.u8) (by simpa [top] using h)
   rw [w8 _ _ (by omega),w8 _ _ (by omega),w8 _ _ (by omega),hs];have:pop8 q1+pop8 q2+pop8 q3+pop8 q4=pop8 q4+pop8 q3+pop8 q2+pop8 q1:=by omega
   rw [this];exact Af2 (by omega) (by omega))
 rw [← h1];exact h2
theorem q79_.spec {x:Int} (hx:U32 x):q79_.C x (szN (sN x):Int):=by
 have:=q31_.spec hx.lt;rw [← hx.eq] at this;obtain ⟨r,h1,h2⟩:=q79_.enter x (fun r=>r=(szN (sN x):Int)) ⟨_,this,rfl⟩;rw [← h1];exact h2
theorem Awo (a b:Nat):(a &&& b) / 2=(a / 2) &&& (b / 2):=by
 apply Nat.eq_of_testBit_eq;intro i;rw [Nat.testBit_and,Nat.testBit_div_two,Nat.testBit_div_two,Nat.testBit_div_two,Nat.testBit_and]
theorem Azi (a b:Nat):(a &&& b) % 2=1↔a % 2=1/\b % 2=1:=by
 have:=Nat.testBit_and a b 0;rw [Nat.testBit_zero,Nat.testBit_zero,Nat.testBit_zero] at this;by_cases h1:a % 2=1<;>by_cases h2:b % 2=1<;>simp_all
theorem Azh (a b:Nat):a &&& b=2*((a / 2) &&& (b / 2))+(if a % 2=1/\b % 2=1 then 1 else 0):=by
 have h:=Nat.div_add_mod (a &&& b) 2;have h2:=Azi a b;rw [Awo] at h
 split
 ·rename_i hc;have:=h2.2 hc;omega
 ·rename_i hc;have:¬ (a &&& b) % 2=1:=fun hh=>hc (h2.1 hh);omega
theorem Au6 {a b:Nat}:a &&& b=a↔((a / 2) &&& (b / 2)=a / 2)/\(a % 2=1->b % 2=1):=by
 constructor
 ·intro h;constructor
  ·rw [← Awo,h]
  ·intro h1;exact ((Azi a b).1 (by rw [h];exact h1)).2
 ·rintro ⟨h1,h2⟩;rw [Azh,h1];by_cases ha:a % 2=1
  ·rw [if_pos ⟨ha,h2 ha⟩];omega
  ·rw [if_neg (fun h=>ha h.1)];omega
theorem Ay8 {a b:Nat} (h:a &&& b=a):a<=b:=by rw [← h];exact Nat.and_le_right
theorem Bg5 (x:Nat):∀ (s y:Nat),x &&& s=x->0<x->y &&& s=y->y<x->y<=(x-1) &&& s:=by
 induction x using Nat.strongRecOn with
 | _ x ih=>
  intro s y hx h0 hy hlt;obtain ⟨x1,x2⟩:=Au6.1 hx;obtain ⟨y1,y2⟩:=Au6.1 hy;rw [Azh];by_cases hodd:x % 2=1
  ·have e:(x-1) / 2=x / 2:=by omega
   rw [e,x1];omega
  ·have e:(x-1) / 2=x / 2-1:=by omega
   have e2:(x-1) % 2=1:=by omega
   rw [e,e2];have:=ih (x / 2) (by omega) (s / 2) (y / 2) x1 (by omega) y1 (by omega);by_cases hy1:y % 2=1
   ·rw [if_pos ⟨rfl,y2 hy1⟩];omega
   ·split<;>omega
def bsL:Nat->Nat->List Nat
 | 0,_=>[0]
 | k+1,s=>(bsL k (s / 2)).flatMap fun y=>if s % 2=1 then [2*y,2*y+1] else [2*y]
theorem Atf:∀ {k s:Nat},s<2^k->∀ n,n∈bsL k s↔n &&& s=n
 | 0,s,hs,n=>by
  have:s=0:=by simpa using hs
  subst this;simp [bsL,eq_comm]
 | k+1,s,hs,n=>by
  have ih:=Atf (k:=k) (s:=s / 2) (by rw [Nat.pow_succ] at hs;omega);simp only [bsL,List.mem_flatMap];rw [Au6];constructor
  ·rintro ⟨y,hy,hn⟩;have hy:=(ih y).1 hy
   split at hn
   ·rename_i h1;rcases List.mem_cons.1 hn with rfl | hn
    ·have:2*y / 2=y:=by omega
     rw [this];exact ⟨hy,fun _=>h1⟩
    ·have hn:=List.mem_singleton.1 hn;subst hn;have:(2*y+1) / 2=y:=by omega
     rw [this];exact ⟨hy,fun _=>h1⟩
   ·have hn:=List.mem_singleton.1 hn;subst hn;have:2*y / 2=y:=by omega
    rw [this];exact ⟨hy,fun h=>by omega⟩
  ·rintro ⟨h1,h2⟩;refine ⟨n / 2,(ih _).2 h1,?_⟩
   split
   ·by_cases hn:n % 2=1
    ·have:n=2*(n / 2)+1:=by omega
     simp;omega
    ·simp;omega
   ·rename_i hs1;have:¬ n % 2=1:=fun h=>hs1 (h2 h);simp;omega
theorem Azm:∀ {k s:Nat},(bsL k s).Pairwise (·<·)
 | 0,s=>by simp [bsL]
 | k+1,s=>by
  simp only [bsL];rw [List.pairwise_flatMap];refine ⟨fun a _=>?_,(Azm (k:=k) (s:=s / 2)).imp fun {a b} hab x hx y hy=>?_⟩
  ·split<;>simp
  ·split at hx
   ·rename_i h1;rw [if_pos h1] at hy;simp at hx hy;omega
   ·rename_i h1;rw [if_neg h1] at hy;simp at hx hy;omega
def pcN (k s:Nat):Nat:=((List.range k).filter fun i=>s.testBit i).length
theorem Bg3 (k s:Nat):pcN (k+1) s=(if s % 2=1 then 1 else 0)+pcN k (s / 2):=by
 unfold pcN;rw [List.range_succ_eq_map,List.filter_cons,List.filter_map];have e:(List.range k).filter ((fun i=>s.testBit i) ∘ Nat.succ)=(List.range k).filter fun i=>(s / 2).testBit i:=by
  refine List.filter_congr fun i _=>?_;simp only [Function.comp,Nat.succ_eq_add_one,Nat.testBit_add_one]
 rw [e,Nat.testBit_zero];by_cases h:s % 2=1
 ·simp [h];omega
 ·simp [h]
theorem Avr (l:List Nat) (c:Nat):(l.map fun _=>c).sum=l.length*c:=by
 induction l with
 | nil=>simp
 | cons a l ih=>rw [List.map_cons,List.sum_cons,ih,List.length_cons,Nat.add_mul];omega
theorem Azn:∀ {k s:Nat},(bsL k s).length=2^pcN k s
 | 0,s=>by simp [bsL,pcN]
 | k+1,s=>by
  have ih:=Azn (k:=k) (s:=s / 2);rw [Bg3];simp only [bsL,List.length_flatMap];by_cases h:s % 2=1
  ·simp only [if_pos h];have e:((bsL k (s / 2)).map fun a=>[2*a,2*a+1].length).sum=(bsL k (s / 2)).length*2:=Avr _ 2;rw [e,ih,Nat.pow_add];omega
  ·simp only [if_neg h];have e:((bsL k (s / 2)).map fun a=>[2*a].length).sum=(bsL k (s / 2)).length*1:=Avr _ 1;rw [e,ih];simp
theorem Bgw {α:Type} (f:α->Nat) {N:Nat}:∀ {l:List α},l.Pairwise (fun a b=>f a<f b)->(∀ x∈l,f x<N)->l.length<=N:=by
 have:∀ (l:List α) (m:Nat),l.Pairwise (fun a b=>f a<f b)->(∀ x∈l,m<=f x/\f x<N)->l.length+m<=max N m:=by
  intro l
  induction l with
  | nil=>intro m _ _;simp;omega
  | cons a l ih=>
   intro m hp hb;obtain ⟨h1,h2⟩:=List.pairwise_cons.1 hp;have ha:=hb a (by simp);have:=ih (f a+1) h2 fun x hx=>⟨h1 x hx,(hb x (by simp [hx])).2⟩
   simp only [List.length_cons];omega
 intro l hp hb;have:=this l 0 hp fun x hx=>⟨Nat.zero_le _,hb x hx⟩
 omega
def letB (x:Int):Bool:=decide (97<=x/\x<=122∨65<=x/\x<=90∨x=95)
def alnB (x:Int):Bool:=letB x || decide (48<=x/\x<=57)
def Apn:List UInt8:=[110,117,108,108]
theorem Bh3:((⟨#[110,117,108,108]⟩:ByteArray)).toList=Apn:=Aw6 (l:=Apn)
theorem Awu:((⟨#[]⟩:ByteArray)).toList=[]:=Aw6 (l:=[])
def Ad5:List UInt8->Bool
 | []=>false
 | b::r=>decide (r.length<24)&&letB (u8i b)&&!decide (b::r=Apn)&&r.all fun b=>alnB (u8i b)
def Aih (s:ByteArray):Bool:=Ad5 s.toList
theorem Bex {φ:Bool->Prop} {P:Prop} {x:Int} (h:if alnB x=true then P else φ false) (hl:¬ letB x=true):if x<48 then φ false else if 57<x then φ false else P:=by
 have e:alnB x=decide (48<=x/\x<=57):=by unfold alnB;rw [Bool.eq_false_iff.2 hl,Bool.false_or]
 rw [e] at h
 repeat' split
 ·rw [if_neg (by rw [decide_eq_true_iff];omega)] at h;exact h
 ·rw [if_neg (by rw [decide_eq_true_iff];omega)] at h;exact h
 ·rw [if_pos (by rw [decide_eq_true_iff];omega)] at h;exact h
namespace q80_
theorem two {s:ByteArray} {i:Int} {φ:Bool->Prop} {x:Int} (h:if letB x=true then L3 s i φ else if i=0 then φ false else if x<48 then φ false else if 57<x then φ false else L3 s i φ):L2 s i x (letB x) φ:=by
 apply L2_step;exact h
theorem spec {s : ByteArray} : C s (Aih s) := by
  obtain ⟨r, h1, h2⟩ := enter s (fun r => r = Aih s) (by
    unfold Aih;rw [Ahq, Bh3, Awu];cases hs : s.toList with
    | nil => simp [Ad5]
    | cons b t =>
      rw [if_neg (by simp)]
      split
      · rename_i hn
        have hn : 24 <= t.length := by simp at hn; omega
        simp [Ad5]; omega
      · rename_i hn
        have hn : t.length < 24 := by simp at hn; omega
        have hlen : s.toList.length = t.length + 1 := by rw [hs]; rfl
        split
        · rename_i h0
          simp [Ad5, Apn, h0]
        · rename_i h0
          have body : ∀ (k : Nat) c, s.toList[k]? = some c -> (if letB (u8i c) = true then L1 s ((k + 1 : Nat) : Int) (fun r => r = Ad5 (b :: t)) else if (k : Int) = 0 then false = Ad5 (b :: t) else if (u8i c) < 48 then false = Ad5 (b :: t) else if 57 < (u8i c) then false = Ad5 (b :: t) else L1 s ((k + 1 : Nat) : Int) (fun r => r = Ad5 (b :: t))) -> L1 s k (fun r => r = Ad5 (b :: t)) := by
            intro k c hc h;have hk := (List.getElem?_eq_some_iff.1 hc).1;apply L1_step;rw [Ahq, if_pos (by omega)];refine ⟨c, Ate hc, ?_⟩;have next : L1 s ((k + 1 : Nat) : Int) (fun r => r = Ad5 (b :: t)) -> L3 s k fun r => r = Ad5 (b :: t) := fun h => by
              apply L3_step;rw [Aa3 (by omega)];exact h
            have key : L2 s k (u8i c) (letB (u8i c)) fun r => r = Ad5 (b :: t) := by
              apply two
              split
              · rename_i hh; rw [if_pos hh] at h; exact next h
              · rename_i hh; rw [if_neg hh] at h
                split
                · rename_i h2; rw [if_pos h2] at h; exact h
                · rename_i h2; rw [if_neg h2] at h
                  split
                  · rename_i h3; rw [if_pos h3] at h; exact h
                  · rename_i h3; rw [if_neg h3] at h
                    split
                    · rename_i h4; rw [if_pos h4] at h; exact h
                    · rename_i h4; rw [if_neg h4] at h; exact next h
            have e : ∀ v, v = letB (u8i c) -> L2 s k (u8i c) v fun r => r = Ad5 (b :: t) := by rintro _ rfl; exact key
            repeat' split
            all_goals apply e
            all_goals unfold letB
            all_goals first
              | (symm; rw [decide_eq_true_iff]; omega)
              | (by_cases h : u8i c = 95
                 · simp [h]
                 · have : (u8i c == 95) = false := by simpa using h
                   rw [this]; symm; rw [decide_eq_false_iff_not]; omega)
          have h0s : s.toList[0]? = some b := by rw [hs]; rfl
          refine body 0 b h0s ?_
          split
          · rename_i hb
            have rest := Awn (l := t) (p := fun b => alnB (u8i b)) (L := fun i => L1 s (i + 1) fun r => r = Ad5 (b :: t)) (φ := fun r => r = Ad5 (b :: t)) ?_ ?_ ?_
            · simpa using rest
            · intro h
              apply L1_step;rw [Ahq, if_neg (by omega)]; exact h
            · intro k c hc hk h
              have e1 : ((k : Nat) : Int) + 1 = ((k + 1 : Nat) : Int) := by omega
              rw [e1];refine body (k + 1) c (by rw [hs]; simpa using hc) ?_
              split
              · rename_i hl
                rw [if_pos (by unfold alnB; rw [hl]; rfl)] at h;exact h
              · rename_i hl
                rw [if_neg (by omega)];exact Bex (φ := fun r => r = Ad5 (b :: t)) h hl
            · simp [Ad5, hb, h0, hn]
          · rename_i hb
            simp [Ad5, hb])
  rw [← h1]; exact h2
end q80_
def eqS (x a:ByteArray):Bool:=decide (a=x)
def Ai2:List ByteArray->List ByteArray->Bool
 | _,[]=>true
 | pre,a::r=>Aih a&&!pre.any (eqS a)&&Ai2 (pre++[a]) r
def Ahd (l:List ByteArray):Bool:=Ai2 [] l
namespace q27_
theorem spec {l:List ByteArray} {x:ByteArray} (hn:l.length<Big):C l x (ixI (eqS x) l):=by
 obtain ⟨r,h1,h2⟩:=enter l x (fun r=>r=ixI (eqS x) l) (by
  refine Aj8 (l:=l) (p:=eqS x) (L:=fun i=>L1 l x i _) (φ:=fun r=>r=ixI (eqS x) l) ?_ ?_ rfl
  ·intro h;apply L1_step;rw [if_neg (by omega)];exact h
  ·intro k a ha hk h;apply L1_step;rw [if_pos (by omega)];refine ⟨a,Ad4 ha,?_⟩;rw [Aa3 (by unfold Big at hn;omega)]
   split
   ·rename_i hh;rw [if_pos (by simp [eqS,Ao4.1 hh])] at h;exact h
   ·rename_i hh;rw [if_neg (by simp only [eqS,decide_eq_true_eq];rintro rfl;exact hh rfl)] at h;exact h)
 rw [← h1];exact h2
end q27_
theorem q24_.spec {l:List ByteArray} {x:ByteArray} (hn:l.length<Big):q24_.C l x (l.any (eqS x)):=by
 obtain ⟨r,h1,h2⟩:=q24_.enter l x (fun r=>r=l.any (eqS x)) ⟨_,q27_.spec hn,by rw [Atu]⟩;rw [← h1];exact h2
theorem Bbg {l : List ByteArray} {L : Int -> Prop} {P Q : Prop} (stop : P -> L (l.length : Int))
    (step : ∀ (k : Nat) a, l[k]? = some a -> k < l.length -> (if Aih a = true then (if (l.take k).any (eqS a) = true then Q else L ((k + 1 : Nat) : Int)) else Q) -> L k) (h : Ahd l = true -> P) (h' : Ahd l = false -> Q) : L 0 := by
  have : ∀ (r : List ByteArray) (k : Nat), l.drop k = r -> k <= l.length -> (Ai2 (l.take k) r = true -> P) -> (Ai2 (l.take k) r = false -> Q) -> L k := by
    intro r
    induction r with
    | nil => intro k hd hk h h'; have : k = l.length := by have := Aax hd; omega
             subst this; exact stop (h rfl)
    | cons a r ih =>
      intro k hd hk h h';have hlt := Aay hd;refine step k a (Aaj hd) hlt ?_;have hn := ih (k + 1) (Aa7 hd) hlt;have e : l.take (k + 1) = l.take k ++ [a] := by rw [List.take_add_one, Aaj hd]; rfl
      rw [e] at hn;simp only [Ai2] at h h'
      split
      · rename_i h1
        split
        · rename_i h2
          exact h' (by simp [h1, h2])
        · rename_i h2
          have h2 := Bool.eq_false_iff.2 h2;exact hn (fun hh => h (by simp [h1, h2, hh])) (fun hh => h' (by simp [h1, h2, hh]))
      · rename_i h1
        have h1 := Bool.eq_false_iff.2 h1;exact h' (by simp [h1])
  exact this l 0 rfl (Nat.zero_le _) h h'
def Aba (v:api_Value):Bool:=decide (v.Kind=0/\v.Num=0/\v.Str.toList=[]∨v.Kind=1/\v.Str.toList=[]∨v.Kind=2/\v.Num=0/\v.Str.toList.length<=200∨v.Kind=3/\1<=v.Num/\v.Str.toList=[])
theorem Bc8 {v : api_Value} {φ : Bool -> Prop} (h : φ (Aba v)) : (if v.Kind = 0 then (if v.Num = 0 then φ ((v.Str.toList == ((⟨#[]⟩ : ByteArray)).toList)) else φ false) else (if v.Kind = 1 then φ ((v.Str.toList == ((⟨#[]⟩ : ByteArray)).toList)) else (if v.Kind = 2 then (if v.Num = 0 then φ ((decide ((Aga v.Str) <= 200))) else φ false) else (if v.Kind = 3 then (if 1 <= v.Num then φ ((v.Str.toList == ((⟨#[]⟩ : ByteArray)).toList)) else φ false) else φ false)))) := by
  have e : ∀ b, b = Aba v -> φ b := by rintro _ rfl; exact h
  have e0 : (v.Str.toList == ((⟨#[]⟩ : ByteArray)).toList) = decide (v.Str.toList = []) := by
    rw [Awu];by_cases h : v.Str.toList = []
    · simp [h]
    · simp [h]
  rw [e0, Ahq]
  repeat' split
  all_goals apply e
  all_goals unfold Aba
  all_goals first
    | (rw [decide_eq_decide]; omega)
    | (symm; rw [decide_eq_false_iff_not]; omega)
    | (rw [decide_eq_decide]; constructor
       · intro h; simp_all
       · intro h; simp_all)
theorem q85_.spec {v:api_Value}:q85_.C v (Aba v):=by
 obtain ⟨r,h1,h2⟩:=q85_.enter v (fun r=>r=Aba v) (Bc8 (φ:=fun r=>r=Aba v) rfl);rw [← h1];exact h2
def Adv (l:List api_Value):Bool:=l.all Aba
theorem q38_.spec {v:api_Value}:q38_.C v (!Aba v):=by
 obtain ⟨r,h1,h2⟩:=q38_.enter v (fun r=>r=!Aba v) ⟨_,q85_.spec,rfl⟩;rw [← h1];exact h2
namespace q2_
theorem spec {l:List api_Value} (hn:l.length<Big):C l (ixI (fun v=>!Aba v) l):=by
 obtain ⟨r,h1,h2⟩:=enter l (fun r=>r=ixI (fun v=>!Aba v) l) (by
  refine Aj8 (l:=l) (p:=fun v=>!Aba v) (L:=fun i=>L1 l i _) (φ:=fun r=>r=ixI (fun v=>!Aba v) l) ?_ ?_ rfl
  ·intro h;apply L1_step;rw [if_neg (by omega)];exact h
  ·intro k a ha hk h;apply L1_step;rw [if_pos (by omega)];refine ⟨a,Ad4 ha,_,q38_.spec,?_⟩;rw [Aa3 (by unfold Big at hn;omega)];exact h)
 rw [← h1];exact h2
end q2_
theorem q0_.spec {l:List api_Value} (hn:l.length<Big):q0_.C l (!Adv l):=by
 obtain ⟨r,h1,h2⟩:=q0_.enter l (fun r=>r=!Adv l) ⟨_,q2_.spec hn,by
  rw [Atu];unfold Adv;rw [List.any_eq_not_all_not];simp⟩
 rw [← h1];exact h2
theorem q43_.spec {l:List api_Value} (hn:l.length<Big):q43_.C l (Adv l):=by
 obtain ⟨r,h1,h2⟩:=q43_.enter l (fun r=>r=Adv l) ⟨_,q0_.spec hn,by
  show (!(!Adv l))=_;rw [Bool.not_not]⟩
 rw [← h1];exact h2
def Aes (n:Nat):Int->List api_Row->Int
 | _,[]=>0
 | last,r::rs=>if r.ID<=last then 1 else if r.Values.length=n then (if Adv r.Values=true then Aes n r.ID rs else 1) else 6
def Ahl (t:api_Table):Int:=if Aih t.Name=true then (if 16<t.Attrs.length then 3 else if 1000<t.Rows.length then 3 else if Ahd t.Attrs=true then Aes t.Attrs.length 0 t.Rows else 1) else 1
theorem Be8 {n : Nat} {l : List api_Row} {L : Int -> Int -> Prop} {φ : Int -> Prop} (stop : ∀ last, φ 0 -> L last (l.length : Int))
    (step : ∀ (k : Nat) r last, l[k]? = some r -> k < l.length -> (if r.ID <= last then φ 1 else if r.Values.length = n then (if Adv r.Values = true then L r.ID ((k + 1 : Nat) : Int) else φ 1) else φ 6) -> L last k) (h : φ (Aes n 0 l)) : L 0 0 := by
  have : ∀ (r : List api_Row) (k : Nat) (last : Int), l.drop k = r -> k <= l.length -> φ (Aes n last r) -> L last k := by
    intro r
    induction r with
    | nil => intro k last hd hk h; have : k = l.length := by have := Aax hd; omega
             subst this; exact stop _ h
    | cons a r ih =>
      intro k last hd hk h;have hlt := Aay hd;refine step k a last (Aaj hd) hlt ?_;simp only [Aes] at h
      split
      · rename_i h1; rw [if_pos h1] at h; exact h
      · rename_i h1; rw [if_neg h1] at h
        split
        · rename_i h2; rw [if_pos h2] at h
          split
          · rename_i h3; rw [if_pos h3] at h; exact ih (k + 1) _ (Aa7 hd) hlt h
          · rename_i h3; rw [if_neg h3] at h; exact h
        · rename_i h2; rw [if_neg h2] at h; exact h
  exact this l 0 0 rfl (Nat.zero_le _) h
namespace q86_
theorem rows {t:api_Table} {φ:Int->Prop} (hr:t.Rows.length<=1000) (ha:t.Attrs.length<=16) (h:φ (Aes t.Attrs.length 0 t.Rows)):L2 t 0 0 φ:=by
 refine Be8 (n:=t.Attrs.length) (l:=t.Rows) (L:=fun last i=>L2 t last i φ) (φ:=φ) ?_ ?_ h
 ·intro last h;apply L2_step;rw [if_neg (by omega)];exact h
 ·intro k r last hr hk h;apply L2_step;rw [if_pos (by omega)];refine ⟨r,Ad4 hr,?_⟩
  split
  ·rename_i h1;rw [if_pos h1] at h;exact h
  ·rename_i h1;rw [if_neg h1] at h
   split
   ·rename_i h2;have h2:r.Values.length=t.Attrs.length:=by omega
    rw [if_pos h2] at h;refine ⟨_,q43_.spec (by unfold Big;omega),?_⟩;rw [Aa3 (by omega)];exact h
   ·rename_i h2;rw [if_neg (by omega)] at h;exact h
theorem spec {t:api_Table}:C t (Ahl t):=by
 obtain ⟨r,h1,h2⟩:=enter t (fun r=>r=Ahl t) (by
  refine ⟨_,q80_.spec,?_⟩;unfold Ahl
  split
  ·by_cases h1:16<t.Attrs.length
   ·rw [if_pos (by omega),if_pos h1]
   ·rw [if_neg (by omega),if_neg h1];by_cases h2:1000<t.Rows.length
    ·rw [if_pos (by omega),if_pos h2]
    ·rw [if_neg (by omega),if_neg h2];refine Bbg (l:=t.Attrs) (L:=fun i=>L1 t i _) (P:=Aes t.Attrs.length 0 t.Rows=if Ahd t.Attrs=true then Aes t.Attrs.length 0 t.Rows else 1) (Q:=(1:Int)=if Ahd t.Attrs=true then Aes t.Attrs.length 0 t.Rows else 1) ?_ ?_ ?_ ?_
     ·intro h;apply L1_step;rw [if_neg (by omega)];exact rows (φ:=fun r=>r=if Ahd t.Attrs=true then Aes t.Attrs.length 0 t.Rows else 1) (by omega) (by omega) h
     ·intro k a ha hk h;apply L1_step;rw [if_pos (by omega)];refine ⟨a,Ad4 ha,_,q80_.spec,?_⟩
      split
      ·rename_i h1;rw [if_pos h1] at h;refine ⟨by omega,by omega,_,q24_.spec (by rw [List.length_take];unfold Big;omega),?_⟩;rw [Int.toNat_natCast,Nat.sub_zero,Aa3 (by omega)];exact h
      ·rename_i h1;rw [if_neg h1] at h;exact h
     ·intro h;rw [if_pos h]
     ·intro h;rw [if_neg (by rw [h];decide)]
  ·rfl)
 rw [← h1];exact h2
end q86_
namespace q58_
theorem loop {φ:List Int->Prop}:∀ (n:Nat) (acc:List Int),n<2^32->acc.length+(Aat n).length<=1000->φ (acc++(Aat n).map fun (i:Nat)=>(i:Int))->L1 n acc φ:=by
 intro n
 induction n using Nat.strongRecOn with
 | _ n ih=>
  intro acc hn hl h;apply L1_step;by_cases h0:n=0
  ·subst h0;rw [Ayq] at h;rw [if_pos (by omega)];simpa using h
  ·rw [if_neg (by omega)];rw [Ayp h0 hn] at hl h;simp only [List.length_cons] at hl;refine ⟨by omega,by omega,?_⟩;have e1:IntKind.wrap .u32 ((n:Int)-1)=((n-1:Nat):Int):=by
    have:(n:Int)-1=((n-1:Nat):Int):=by omega
    rw [this];exact Abx (k:=.u32) (by simp only [top];omega)
   rw [e1,Aem (k:=.u32) (by simpa [top] using hn) (by simp only [top];omega)];refine ih _ (Bf5 h0) _ (Nat.lt_of_le_of_lt Nat.and_le_left hn) (by rw [List.length_append,List.length_singleton];omega) ?_;have e2:tz32 (n:Int)=((Abm n 32 0:Nat):Int):=by unfold tz32;rw [Int.toNat_natCast]
   rw [e2];simpa using h
theorem spec {n:Nat} (hn:n<2^32):C n ((Aat n).map fun (i:Nat)=>(i:Int)):=by
 obtain ⟨r,h1,h2⟩:=enter n (fun r=>r=(Aat n).map fun (i:Nat)=>(i:Int)) (loop n [] hn (by have:=Afu (n:=n);simp;omega) (by simp));rw [← h1];exact h2
end q58_
end Go.Own

namespace Go.Own
def be:Nat->Nat->List Int
 | 0,_=>[]
 | j+1,u=>((u / 2^(8*j) % 256:Nat):Int)::be j u
theorem Arm:∀ {j u},(be j u).length=j
 | 0,_=>rfl
 | j+1,u=>by simp [be,Arm]
theorem Aws:∀ {j u},∀ x∈be j u,0<=x/\x<256
 | 0,_,_,h=>by simp [be] at h
 | j+1,u,x,h=>by
  simp only [be,List.mem_cons] at h;rcases h with rfl | h
  ·omega
  ·exact Aws x h
theorem Bct:∀ {j u v},be j u=be j v->u % 2^(8*j)=v % 2^(8*j)
 | 0,u,v,_=>by simp [Nat.mod_one]
 | j+1,u,v,h=>by
  simp only [be,List.cons.injEq] at h;have ih:=Bct h.2;have e:2^(8*(j+1))=2^(8*j)*256:=by rw [Nat.mul_add,Nat.pow_add]
  rw [e,Nat.mod_mul,Nat.mod_mul,ih];have:u / 2^(8*j) % 256=v / 2^(8*j) % 256:=by omega
  rw [this]
def Ah3 (n:Int):Nat:=(n % 18446744073709551616).toNat ^^^ 9223372036854775808
theorem Aoe {n:Int}:Ah3 n<2^64:=Nat.xor_lt_two_pow (by omega) (by decide)
theorem Bb0 {m n:Int} (hm : -9223372036854775808<=m/\m<9223372036854775808) (hn : -9223372036854775808<=n/\n<9223372036854775808) (h:Ah3 m=Ah3 n):m=n:=by
 unfold Ah3 at h;have h2:(m % 18446744073709551616).toNat=(n % 18446744073709551616).toNat:=by
  have:=congrArg (· ^^^ 9223372036854775808) h;simpa [Nat.xor_assoc] using this
 omega
namespace q81_
theorem loop {φ:List Int->Prop} {u:Nat} (hu:u<2^64):∀ (j:Nat) (acc:List Int),j<=8->acc.length+j<=1000->φ (acc++be j u)->L1 acc u (8*(j:Int)-8) φ
 | 0,acc,hj,hl,h=>by
  apply L1_step;rw [if_neg (by omega)];simpa [be] using h
 | j+1,acc,hj,hl,h=>by
  apply L1_step;rw [if_pos (by omega)];refine ⟨by omega,by omega,?_⟩;have e1:8*((j+1:Nat):Int)-8=((8*j:Nat):Int):=by omega
  rw [e1,Ae5 (k:=.u64) (by simpa [top] using hu),IntKind.wrap_u8,Af2 (by omega) (by omega)];have e2:((8*j:Nat):Int)-8=8*(j:Int)-8:=by omega
  rw [e2];refine loop hu j _ (by omega) (by simp;omega) ?_;have e3:((u / 2^(8*j):Nat):Int) % 256=((u / 2^(8*j) % 256:Nat):Int):=by omega
  rw [e3];simpa [be] using h
theorem spec {n:Int} {acc:List Int} (hl:acc.length<=900):C n acc (acc++be 8 (Ah3 n)):=by
 obtain ⟨r,h1,h2⟩:=enter n acc (fun r=>r=acc++be 8 (Ah3 n)) (by
  have e:bXor .u64 (IntKind.wrap .u64 n) 9223372036854775808=(Ah3 n:Int):=by
   have e1:IntKind.wrap .u64 n=(((n % 18446744073709551616).toNat:Nat):Int):=by
    simp only [IntKind.wrap,IntKind.bits,IntKind.signed];simp;omega
   rw [e1];exact Awr (k:=.u64) (b:=9223372036854775808) (by simp only [top];omega) (by simp only [top];omega)
  rw [e];exact loop Aoe 8 acc (by omega) (by omega) rfl)
 rw [← h1];exact h2
end q81_
def esc:List UInt8->List Int
 | []=>[]
 | b::r=>if u8i b=0 then 0::255::esc r else u8i b::esc r
theorem Bfb {l:List UInt8} {b:UInt8}:esc (l++[b])=esc l++esc [b]:=by
 induction l with
 | nil=>rfl
 | cons a l ih=>simp only [List.cons_append,esc,ih];split<;>rfl
theorem Akq:∀ {l:List UInt8},∀ x∈esc l,0<=x/\x<256
 | [],x,h=>by simp [esc] at h
 | b::r,x,h=>by
  simp only [esc] at h
  split at h
  ·simp only [List.mem_cons] at h;rcases h with rfl | rfl | h
   ·omega
   ·omega
   ·exact Akq x h
  ·simp only [List.mem_cons] at h;rcases h with rfl | h
   ·exact Blo
   ·exact Akq x h
theorem Aph:∀ {l:List UInt8},(esc l).length<=2*l.length
 | []=>by simp [esc]
 | b::r=>by
  have:=Aph (l:=r);simp only [esc]
  split<;>simp only [List.length_cons]<;>omega
theorem Atm:∀ {a b:List UInt8} {r s:List Int},esc a++(0::1::r)=esc b++(0::1::s)->a=b/\r=s
 | [],[],r,s,h=>by simpa [esc] using h
 | [],y::b,r,s,h=>by
  simp only [esc] at h
  split at h
  ·simp at h
  ·rename_i hy;simp only [List.nil_append,List.cons_append,List.cons.injEq] at h;exact absurd h.1.symm hy
 | x::a,[],r,s,h=>by
  simp only [esc] at h
  split at h
  ·simp at h
  ·rename_i hx;simp only [List.nil_append,List.cons_append,List.cons.injEq] at h;exact absurd h.1 hx
 | x::a,y::b,r,s,h=>by
  simp only [esc] at h
  split at h
  ·rename_i hx
   split at h
   ·rename_i hy;simp only [List.cons_append,List.cons.injEq,true_and] at h;obtain ⟨h1,h2⟩:=Atm h;exact ⟨by rw [h1,Bac.1 (hx.trans hy.symm)],h2⟩
   ·rename_i hy;simp only [List.cons_append,List.cons.injEq] at h;exact absurd h.1.symm hy
  ·rename_i hx
   split at h
   ·rename_i hy;simp only [List.cons_append,List.cons.injEq] at h;exact absurd h.1 hx
   ·rename_i hy;simp only [List.cons_append,List.cons.injEq] at h;obtain ⟨h1,h2⟩:=Atm h.2;exact ⟨by rw [h1,Bac.1 h.1],h2⟩
def keyJ (v:api_Value):List Int:=v.Kind::(if v.Kind=1∨v.Kind=3 then be 8 (Ah3 v.Num) else if v.Kind=2 then esc v.Str.toList++[0,1] else [])
def Aj3 (v:api_Value):Prop:=-9223372036854775808<=v.Num/\v.Num<9223372036854775808
theorem Afp {v:api_Value} (h:Aba v=true):v.Kind=0/\v.Num=0/\v.Str.toList=[]∨v.Kind=1/\v.Str.toList=[]∨v.Kind=2/\v.Num=0/\v.Str.toList.length<=200∨v.Kind=3/\1<=v.Num/\v.Str.toList=[]:=by
 simpa [Aba] using h
theorem As9 {v:api_Value} (h:Aba v=true):∀ x∈keyJ v,0<=x/\x<256:=by
 intro x hx;have hk:0<=v.Kind/\v.Kind<=3:=by rcases Afp h with h | h | h | h<;>omega
 simp only [keyJ,List.mem_cons] at hx;rcases hx with rfl | hx
 ·omega
 ·split at hx
  ·exact Aws x hx
  ·split at hx
   ·rcases List.mem_append.1 hx with hx | hx
    ·exact Akq x hx
    ·simp at hx;rcases hx with rfl | rfl<;>omega
   ·simp at hx
theorem Axk {v:api_Value} (h:Aba v=true):(keyJ v).length<=403:=by
 simp only [keyJ,List.length_cons]
 split
 ·rw [Arm];omega
 ·split
  ·have:=Aph (l:=v.Str.toList);have:v.Str.toList.length<=200:=by
    rcases Afp h with h | h | h | h
    ·rw [h.2.2];simp
    ·rw [h.2];simp
    ·exact h.2.2
    ·rw [h.2.2];simp
   simp;omega
  ·simp
theorem Bfm {v w:api_Value} {r s:List Int} (hv:Aba v=true) (hw:Aba w=true) (nv:Aj3 v) (nw:Aj3 w) (h:keyJ v++r=keyJ w++s):v=w/\r=s:=by
 obtain ⟨k,n,t⟩:=v;obtain ⟨k',n',t'⟩:=w;simp only [keyJ,List.cons_append,List.cons.injEq] at h;obtain ⟨rfl,h⟩:=h;have hv:=Afp hv;have hw:=Afp hw;simp only at hv hw;simp only [api_Value.mk.injEq,true_and];by_cases h1:k=1∨k=3
 ·rw [if_pos h1,if_pos h1] at h;have h3:=List.append_inj h (by rw [Arm,Arm]);have h2:=Bct h3.1;rw [Nat.mod_eq_of_lt Aoe,Nat.mod_eq_of_lt Aoe] at h2;have e:=Bb0 nv nw h2;simp only at e;refine ⟨⟨e,?_⟩,h3.2⟩;rw [← Ao4];have a1:t.toList=[]:=by rcases hv with h | h | h | h<;>first | exact h.2.2 | exact h.2 | omega
  have a2:t'.toList=[]:=by rcases hw with h | h | h | h<;>first | exact h.2.2 | exact h.2 | omega
  rw [a1,a2]
 ·rw [if_neg h1,if_neg h1] at h;by_cases h2:k=2
  ·rw [if_pos h2,if_pos h2,List.append_assoc,List.append_assoc] at h;obtain ⟨e1,e2⟩:=Atm h;rw [Ao4] at e1;exact ⟨⟨by omega,e1⟩,e2⟩
  ·rw [if_neg h2,if_neg h2] at h;have a1:t.toList=[]:=by rcases hv with h | h | h | h<;>first | exact h.2.2 | exact h.2 | omega
   have a2:t'.toList=[]:=by rcases hw with h | h | h | h<;>first | exact h.2.2 | exact h.2 | omega
   exact ⟨⟨by omega,by rw [← Ao4,a1,a2]⟩,by simpa using h⟩
def keyW (v:api_Value):ByteArray:=Ami (keyJ v)
namespace q93_
theorem loop {v:api_Value} {φ:ByteArray×Int->Prop} (hk:v.Kind=2) (hs:v.Str.toList.length<=200) (h:φ (keyW v,0)):∀ (r:List UInt8) (k:Nat),v.Str.toList.drop k=r->k<=v.Str.toList.length->L1 v (2::esc (v.Str.toList.take k)) k φ:=by
 intro r
 induction r with
 | nil=>
  intro k hd hk2;apply L1_step;have:=Aax hd;rw [Ahq,if_neg (by omega),List.take_of_length_le this];have hl:=Aph (l:=v.Str.toList);have e:keyJ v=(2::esc v.Str.toList)++[0,1]:=by simp [keyJ,hk]
  refine ⟨by simp only [List.length_cons];omega,fun x hx=>?_,?_⟩
  ·rcases List.mem_append.1 hx with hx | hx
   ·rcases List.mem_cons.1 hx with rfl | hx
    ·omega
    ·exact Akq x hx
   ·simp at hx;rcases hx with rfl | rfl<;>omega
  ·rw [← e];exact h
 | cons b r ih=>
  intro k hd hk2;have hlt:=Aay hd;apply L1_step;rw [Ahq,if_pos (by omega)];have hl:=Aph (l:=v.Str.toList.take k);rw [List.length_take] at hl;refine ⟨b,Ate (Aaj hd),by simp only [List.length_cons];omega,b,Ate (Aaj hd),?_⟩;have ih:=ih (k+1) (Aa7 hd) hlt;have e:v.Str.toList.take (k+1)=v.Str.toList.take k++[b]:=by rw [List.take_add_one,Aaj hd];rfl
  rw [e,Bfb] at ih;have next:∀ l,l=2::(esc (v.Str.toList.take k)++esc [b])->L4 v l k φ:=by
   rintro _ rfl;apply L4_step;rw [Aa3 (by omega)];exact ih
  split
  ·rename_i h0;refine ⟨by simp only [List.length_append,List.length_cons,List.length_nil];omega,next _ ?_⟩;simp [esc,h0]
  ·rename_i h0;exact next _ (by simp [esc,h0])
theorem spec {v:api_Value} (hv:Aba v=true):C v (keyW v,0):=by
 obtain ⟨r,h1,h2⟩:=enter v (fun r=>r=(keyW v,0)) (by
  refine ⟨_,q85_.spec,?_⟩;rw [if_pos hv];have hc:=Afp hv;have hk:0<=v.Kind/\v.Kind<=3:=by rcases hc with h | h | h | h<;>omega
  have ek:IntKind.wrap .u8 v.Kind=v.Kind:=by rw [IntKind.wrap_u8];omega
  have two:∀ b,(v.Kind=1∨v.Kind=3)->L2 v b fun r=>r=(keyW v,0):=by
   intro b hb;apply L2_step;rw [ek];have e:keyJ v=[v.Kind]++be 8 (Ah3 v.Num):=by simp [keyJ,hb]
   refine ⟨_,q81_.spec (by simp),?_,?_⟩
   ·rw [← e];exact As9 hv
   ·rw [← e];rfl
  have three:¬ (v.Kind=1∨v.Kind=3)->L3 v fun r=>r=(keyW v,0):=by
   intro hb;apply L3_step;rw [ek]
   split
   ·rename_i h2;have hs:v.Str.toList.length<=200:=by
     rcases hc with h | h | h | h
     ·omega
     ·omega
     ·exact h.2.2
     ·omega
    have:=loop (φ:=fun r=>r=(keyW v,0)) h2 hs rfl v.Str.toList 0 rfl (by omega);rw [h2];simpa [esc] using this
   ·rename_i h2;refine ⟨fun x hx=>by simp at hx;omega,?_⟩;simp [keyW,keyJ,hb,h2]
  split
  ·rename_i h1;exact two _ (.inl h1)
  ·rename_i h1
   split
   ·rename_i h3;exact two _ (.inr h3)
   ·rename_i h3;exact three (by omega))
 rw [← h1];exact h2
end q93_
def b8 (x:Int):UInt8:=UInt8.ofNat x.toNat
theorem Bk8 {x y:Int} (hx:0<=x/\x<256) (hy:0<=y/\y<256) (h:b8 x=b8 y):x=y:=by
 unfold b8 at h;have:=congrArg UInt8.toNat h;simp at this;omega
theorem Asm:∀ {l m:List Int},(∀ x∈l,0<=x/\x<256)->(∀ x∈m,0<=x/\x<256)->l.map b8=m.map b8->l=m
 | [],[],_,_,_=>rfl
 | [],_::_,_,_,h=>by simp at h
 | _::_,[],_,_,h=>by simp at h
 | x::l,y::m,h1,h2,h=>by
  simp only [List.map_cons,List.cons.injEq] at h;rw [Bk8 (h1 x (by simp)) (h2 y (by simp)) h.1,Asm (fun z hz=>h1 z (by simp [hz])) (fun z hz=>h2 z (by simp [hz])) h.2]
theorem Av4 {v:api_Value}:(keyW v).data.toList=(keyJ v).map b8:=by
 unfold keyW Ami b8;simp
theorem Bdp {v:api_Value}:(keyW v).size=(keyJ v).length:=by
 have:(keyW v).size=(keyW v).data.toList.length:=rfl;rw [this,Av4,List.length_map]
def Af5 (l:List api_Value):List Int:=l.flatMap keyJ
theorem Aq8 {l:List api_Value} (h:∀ v∈l,Aba v=true):∀ x∈Af5 l,0<=x/\x<256:=by
 intro x hx;obtain ⟨v,hv,hx⟩:=List.mem_flatMap.1 hx;exact As9 (h v hv) x hx
theorem Av5:∀ {l m:List api_Value},l.length=m.length->(∀ v∈l,Aba v=true/\Aj3 v)->(∀ v∈m,Aba v=true/\Aj3 v)->Af5 l=Af5 m->l=m
 | [],[],_,_,_,_=>rfl
 | [],_::_,h,_,_,_=>by simp at h
 | _::_,[],h,_,_,_=>by simp at h
 | v::l,w::m,hl,h1,h2,h=>by
  simp only [Af5,List.flatMap_cons] at h;have a:=h1 v (by simp);have b:=h2 w (by simp);obtain ⟨e1,e2⟩:=Bfm a.1 b.1 a.2 b.2 h;rw [e1,Av5 (by simpa using hl) (fun z hz=>h1 z (by simp [hz])) (fun z hz=>h2 z (by simp [hz])) e2]
def Af6 (l:List api_Value):ByteArray:=bstr ((Af5 l).map b8)
theorem Bdr {l m:List api_Value} (hl:l.length=m.length) (h1:∀ v∈l,Aba v=true/\Aj3 v) (h2:∀ v∈m,Aba v=true/\Aj3 v):Af6 l=Af6 m↔l=m:=by
 constructor
 ·intro h;have h3:(Af5 l).map b8=(Af5 m).map b8:=by
   have:=congrArg ByteArray.toList h;unfold Af6 at this
   rwa [Azl,Azl] at this
  exact Av5 hl h1 h2 (Asm (Aq8 fun v hv=>(h1 v hv).1) (Aq8 fun v hv=>(h2 v hv).1) h3)
 ·rintro rfl;rfl
def pick (l:List api_Value) (n:Nat):List api_Value:=(Aat n).filterMap fun i=>l[i]?
def Awm (a b:List api_Value) (n:Nat):Bool:=decide (pick a n=pick b n)
theorem Bgj {a b:List api_Value} (hl:a.length=b.length):∀ {l:List Nat},(l.filterMap fun i=>a[i]?)=(l.filterMap fun i=>b[i]?)↔∀ i∈l,a[i]? = b[i]?
 | []=>by simp
 | k::l=>by
  have ih:=Bgj (a:=a) (b:=b) hl (l:=l);by_cases h:k<a.length
  ·have e1:=List.getElem?_eq_getElem h;have e2:=List.getElem?_eq_getElem (l:=b) (i:=k) (by omega);simp only [List.filterMap_cons,e1,e2,List.cons.injEq,ih,List.forall_mem_cons,zJ]
  ·have e1:a[k]? = none:=List.getElem?_eq_none (by omega);have e2:b[k]? = none:=List.getElem?_eq_none (by omega);simp only [List.filterMap_cons,e1,e2,ih,List.forall_mem_cons,true_and]
theorem Bcj {a b:List api_Value} {n:Nat} (hn:n<2^32) (hl:a.length=b.length):Awm a b n=true↔∀ i,n.testBit i=true->a[i]? = b[i]?:=by
 unfold Awm pick;rw [decide_eq_true_iff,Bgj hl];constructor
 ·exact fun h i hi=>h i ((Abq hn).2 hi)
 ·exact fun h i hi=>h i ((Abq hn).1 hi)
theorem An1 {l:List api_Value} {n:Nat}:∀ v∈pick l n,v∈l:=by
 intro v hv;obtain ⟨i,_,hi⟩:=List.mem_filterMap.1 hv;exact List.mem_of_getElem? hi
structure TV (t:api_Table):Prop where
 name:Aih t.Name=true
 na:t.Attrs.length<=16
 nr:t.Rows.length<=1000
 names:Ahd t.Attrs=true
 rows:Aes t.Attrs.length 0 t.Rows=0
theorem Ajh {t:api_Table}:Ahl t=0↔TV t:=by
 unfold Ahl;constructor
 ·intro h
  split at h
  ·split at h
   ·cases h
   ·split at h
    ·cases h
    ·split at h
     ·rename_i h1 h2 h3 h4;exact ⟨h1,by omega,by omega,h4,h⟩
     ·cases h
  ·cases h
 ·intro h;rw [if_pos h.name,if_neg (by have:=h.na;omega),if_neg (by have:=h.nr;omega),if_pos h.names];exact h.rows
theorem Aox {n:Nat}:∀ {l:List api_Row} {last:Int},Aes n last l=0->∀ r∈l,r.Values.length=n/\(∀ v∈r.Values,Aba v=true)/\last<r.ID
 | [],_,_,r,hr=>by cases hr
 | a::l,last,h,r,hr=>by
  simp only [Aes] at h
  split at h
  ·cases h
  ·split at h
   ·split at h
    ·rename_i h1 h2 h3;unfold Adv at h3;rw [List.all_eq_true] at h3;rcases List.mem_cons.1 hr with rfl | hr
     ·exact ⟨h2,h3,by omega⟩
     ·obtain ⟨e1,e2,e3⟩:=Aox h r hr;exact ⟨e1,e2,by omega⟩
    ·cases h
   ·cases h
theorem TV.len {t:api_Table} (h:TV t) {r:api_Row} (hr:r∈t.Rows):r.Values.length=t.Attrs.length:=(Aox h.rows r hr).1
theorem TV.val {t:api_Table} (h:TV t) {r:api_Row} (hr:r∈t.Rows):∀ v∈r.Values,Aba v=true:=(Aox h.rows r hr).2.1
def TNum (t:api_Table):Prop:=∀ r∈t.Rows,∀ v∈r.Values,Aj3 v
def Aeq (t:api_Table) (n:Nat):List (List api_Value):=t.Rows.map fun r=>pick r.Values n
theorem Afm {t:api_Table} {n:Nat}:(Aeq t n).length=t.Rows.length:=by simp [Aeq]
theorem Bg4 {t:api_Table} (ht:TV t) {n i j:Nat} (hn:n<2^32) (hi:i<t.Rows.length) (hj:j<t.Rows.length):(Aeq t n)[i]? = (Aeq t n)[j]?↔∀ k,n.testBit k=true->(t.Rows[i]'hi).Values[k]? = (t.Rows[j]'hj).Values[k]?:=by
 unfold Aeq;rw [List.getElem?_map,List.getElem?_map,List.getElem?_eq_getElem hi,List.getElem?_eq_getElem hj];simp only [Option.map_some,zJ];rw [← Bcj hn (by rw [ht.len (List.getElem_mem hi),ht.len (List.getElem_mem hj)])];unfold Awm;rw [decide_eq_true_iff]
def OkP (t:api_Table) (l r i k:Nat):Prop:=(Aeq t l)[i]? = (Aeq t l)[k]?->(Aeq t r)[i]? = (Aeq t r)[k]?
def SatP (t:api_Table) (l r:Nat):Prop:=∀ i k,i<t.Rows.length->k<i->OkP t l r i k
theorem SatP.all {t:api_Table} {l r:Nat} (h:SatP t l r) {i k:Nat} (hi:i<t.Rows.length) (hk:k<t.Rows.length):OkP t l r i k:=by
 rcases Nat.lt_trichotomy i k with h1 | h1 | h1
 ·exact fun e=>(h k i hk h1 e.symm).symm
 ·subst h1;exact fun _=>rfl
 ·exact h i k hi h1
def EqA (t:api_Table) (i k a:Nat):Prop:=(t.Rows[i]?.map fun r=>r.Values[a]?)=(t.Rows[k]?.map fun r=>r.Values[a]?)
instance (t:api_Table) (i k a:Nat):Decidable (EqA t i k a):=by unfold EqA;infer_instance
theorem An0 {t:api_Table} (ht:TV t) {n i j:Nat} (hn:n<2^32) (hi:i<t.Rows.length) (hj:j<t.Rows.length):(Aeq t n)[i]? = (Aeq t n)[j]?↔∀ k,n.testBit k=true->EqA t i j k:=by
 rw [Bg4 ht hn hi hj];unfold EqA;rw [List.getElem?_eq_getElem hi,List.getElem?_eq_getElem hj];simp only [Option.map_some,zJ]
theorem Ajl {t:api_Table} (ht:TV t) {l r:Nat} (hl:l<2^32) (hr:r<2^32):SatP t l r↔∀ i k,i<t.Rows.length->k<i->(∀ a,l.testBit a=true->EqA t i k a)->∀ a,r.testBit a=true->EqA t i k a:=by
 unfold SatP OkP;constructor
 ·intro h i k hi hk;have:=h i k hi hk;rw [An0 ht hl hi (by omega),An0 ht hr hi (by omega)] at this;exact this
 ·intro h i k hi hk;rw [An0 ht hl hi (by omega),An0 ht hr hi (by omega)];exact h i k hi hk
theorem Aru {l:List Int} (hl:l.length<=1000000000000):q26_.C l l true:=by
 obtain ⟨r,h1,h2⟩:=q26_.enter l l (fun r=>r=true) (by
  rw [if_pos rfl];have go:∀ (t:List Int) (k:Nat),l.drop k=t->q26_.L1 l l (k:Int) (fun r=>r=true):=by
   intro t
   induction t with
   | nil=>
    intro k hk;have:=Aax hk;apply q26_.L1_step;rw [if_neg (by omega)]
   | cons a t ih=>
    intro k hk;have hlt:=Aay hk;apply q26_.L1_step;rw [if_pos (by omega)];refine ⟨a,Aar hk,a,Aar hk,?_⟩;rw [if_pos rfl,Aa3 (by omega)];exact ih (k+1) (Aa7 hk)
  exact go l 0 rfl)
 rw [← h1];exact h2
theorem Bdf {a b:List api_Value} (hl:a.length=b.length):∀ {l:List Nat},(l.filterMap fun i=>a[i]?).length=(l.filterMap fun i=>b[i]?).length
 | []=>rfl
 | k::l=>by
  have ih:=Bdf (a:=a) (b:=b) hl (l:=l);by_cases h:k<a.length
  ·have e1:=List.getElem?_eq_getElem h;have e2:=List.getElem?_eq_getElem (l:=b) (i:=k) (by omega);simp only [List.filterMap_cons,e1,e2,List.length_cons,ih]
  ·have e1:a[k]? = none:=List.getElem?_eq_none (by omega);have e2:b[k]? = none:=List.getElem?_eq_none (by omega);simp only [List.filterMap_cons,e1,e2,ih]
def ofP (t:api_Table) (n:Nat):api_Partition:=part (Aeq t n)
theorem Bg0 {t:api_Table} {n:Nat} (h:TV t) (hn:TNum t):part (t.Rows.map fun r=>Af6 (pick r.Values n))=ofP t n:=by
 unfold ofP Aeq;refine Bel (by simp) fun i j hi hj=>?_;rw [List.length_map] at hi hj;rw [List.getElem?_map,List.getElem?_map,List.getElem?_map,List.getElem?_map,List.getElem?_eq_getElem hi,List.getElem?_eq_getElem hj];simp only [Option.map_some,zJ];have m1:=List.getElem_mem hi;have m2:=List.getElem_mem hj;refine Bdr (Bdf (by rw [h.len m1,h.len m2])) (fun v hv=>?_) (fun v hv=>?_)
 ·exact ⟨h.val m1 v (An1 v hv),hn _ m1 v (An1 v hv)⟩
 ·exact ⟨h.val m2 v (An1 v hv),hn _ m2 v (An1 v hv)⟩
namespace q84_
theorem inner {t:api_Table} {n:Nat} {φ:api_Partition->Prop} {ks:List ByteArray} {k:Nat} {r:api_Row} (ht:TV t) (hn:n<2^t.Attrs.length) (hr:r∈t.Rows) (hk:k<1000) (hkk:k<ks.length)
  (h:L1 t ((Aat n).map fun (i:Nat)=>(i:Int)) (ks.set k (Af6 (pick r.Values n))) ((k+1:Nat):Int) φ):∀ j,j<=(Aat n).length ->
  L2 t ((Aat n).map fun (i:Nat)=>(i:Int)) ks k r ((Af5 (((Aat n).take j).filterMap fun i=>r.Values[i]?)).map b8) k j φ:=by
 have hn32:n<2^32:=Nat.lt_of_lt_of_le hn (Nat.pow_le_pow_right (by decide) (by have:=ht.na;omega));have hl:=Afu (n:=n);refine down ?_ ?_
 ·apply L2_step;rw [List.length_map,if_neg (by omega),List.take_length];refine ⟨ks[k],by rw [Ab4];exact List.getElem?_eq_getElem hkk,?_⟩;rw [Aa3 (by omega)];have e:lset ks (k:Int) (Af6 (pick r.Values n))=ks.set k (Af6 (pick r.Values n)):=by simp [lset]
  unfold Af6 pick at e h;rw [e];exact h
 ·intro j hj h;apply L2_step;rw [List.length_map,if_pos (by omega)];have hget:=List.getElem?_eq_getElem hj;generalize (Aat n)[j]=i at hget;have hi:=(Abq hn32).1 (List.mem_of_getElem? hget);have hilt:i<t.Attrs.length:=by
   false_or_by_contra
   rename_i hh;rw [Nat.testBit_lt_two_pow (Nat.lt_of_lt_of_le hn (Nat.pow_le_pow_right (by decide) (by omega)))] at hi;cases hi
  have hrl:=ht.len hr;have hv:=List.getElem?_eq_getElem (l:=r.Values) (i:=i) (by omega);generalize r.Values[i]'(by omega)=v at hv;have hval:=ht.val hr v (List.mem_of_getElem? hv);refine ⟨(i:Int),by rw [Ab4,List.getElem?_map,hget];rfl,v,Ad4 hv,(keyW v,0),q93_.spec hval,?_⟩;have hsum:∀ l:List api_Value,(∀ v∈l,Aba v=true)->(Af5 l).length<=403*l.length:=by
   intro l
   induction l with
   | nil=>simp [Af5]
   | cons a l ih=>
    intro hh;have:=ih fun v hv=>hh v (by simp [hv]);have h2:=Axk (hh a (by simp));simp only [Af5,List.flatMap_cons,List.length_append,List.length_cons] at this ⊢;omega
  have h1:=hsum (((Aat n).take j).filterMap fun i=>r.Values[i]?) (fun v hv=>by
   obtain ⟨i,_,hi⟩:=List.mem_filterMap.1 hv;exact ht.val hr v (List.mem_of_getElem? hi))
  have h2:(((Aat n).take j).filterMap fun i=>r.Values[i]?).length<=32:=Nat.le_trans (List.length_filterMap_le _ _) (by rw [List.length_take];omega);have h3:=Axk hval;refine ⟨?_,?_⟩
  ·rw [List.length_map];have:(keyW v).size=(keyJ v).length:=Bdp;simp only [this];omega
  ·rw [Aa3 (by omega)];have e:(((Aat n).take (j+1)).filterMap fun i=>r.Values[i]?)=(((Aat n).take j).filterMap fun i=>r.Values[i]?)++[v]:=by
    rw [List.take_add_one,hget,List.filterMap_append];simp [hv]
   rw [e] at h;simp only [Af5,List.flatMap_append,List.map_append] at h;rw [Av4];simpa [Af5] using h
theorem spec {t:api_Table} {n:Nat} (ht:TV t) (hnum:TNum t) (hn:n<2^t.Attrs.length):C t n (ofP t n):=by
 have hn32:n<2^32:=Nat.lt_of_lt_of_le hn (Nat.pow_le_pow_right (by decide) (by have:=ht.na;omega));have hr:=ht.nr;obtain ⟨q,h1,h2⟩:=enter t n (fun q=>q=ofP t n) (by
  refine ⟨_,q58_.spec hn32,by omega,?_⟩;have loop:∀ k,k<=t.Rows.length->L1 t ((Aat n).map fun (i:Nat)=>(i:Int)) ((t.Rows.take k).map (fun r=>Af6 (pick r.Values n))++List.replicate (t.Rows.length-k) (⟨#[]⟩:ByteArray)) k fun q=>q=ofP t n:=by
   refine down ?_ ?_
   ·apply L1_step;rw [if_neg (by omega),List.take_length,Nat.sub_self,List.replicate_zero,List.append_nil];refine ⟨_,q30_.spec (by rw [List.length_map];omega),?_⟩;rw [← Bg0 ht hnum];simp [part]
   ·intro k hk h;apply L1_step;rw [if_pos (by omega)];have hget:=List.getElem?_eq_getElem hk;generalize t.Rows[k]=r at hget;refine ⟨r,Ad4 hget,?_⟩;have:=inner (t:=t) (n:=n) (φ:=fun q=>q=ofP t n) (ks:=(t.Rows.take k).map (fun r=>Af6 (pick r.Values n))++List.replicate (t.Rows.length-k) (⟨#[]⟩:ByteArray)) (k:=k) (r:=r) ht hn (List.mem_of_getElem? hget) (by omega) (by simp [List.length_take];omega) (by
     have e:((t.Rows.take k).map (fun r=>Af6 (pick r.Values n))++List.replicate (t.Rows.length-k) (⟨#[]⟩:ByteArray)).set k (Af6 (pick r.Values n))=(t.Rows.take (k+1)).map (fun r=>Af6 (pick r.Values n))++List.replicate (t.Rows.length-(k+1)) (⟨#[]⟩:ByteArray):=by
      have hl:((t.Rows.take k).map (fun r=>Af6 (pick r.Values n))).length=k:=by rw [List.length_map,List.length_take];omega
      obtain ⟨m,hm⟩:∃ m,t.Rows.length-k=m+1:=⟨t.Rows.length-k-1,by omega⟩
      rw [List.set_append_right _ _ (by omega),hl,Nat.sub_self,hm,List.replicate_succ,List.set_cons_zero,List.take_add_one,hget];have:t.Rows.length-(k+1)=m:=by omega
      rw [this];simp
     rw [e];exact h) 0 (Nat.zero_le _)
    simpa [Af5] using this
  have:=loop 0 (Nat.zero_le _);simpa using this)
 rw [← h1];exact h2
end q84_
theorem q48_.spec {t:api_Table} {n:Nat} (hn:n<2^32):q48_.C t n (decide (n<2^t.Attrs.length)):=by
 obtain ⟨q,h1,h2⟩:=q48_.enter t n (fun q=>q=decide (n<2^t.Attrs.length)) (by
  refine ⟨by omega,?_⟩;have hn64:n<2^top .u64:=Nat.lt_of_lt_of_le hn (by decide);rw [Abx hn64,Ae5 hn64];have:(((n / 2^t.Attrs.length:Nat):Int)=0)↔n<2^t.Attrs.length:=by
   have hp:0<2^t.Attrs.length:=Nat.pos_of_ne_zero (by simp);constructor
   ·intro h;have h2:n / 2^t.Attrs.length=0:=by omega
    rw [Nat.div_eq_zero_iff] at h2;omega
   ·intro h;rw [Nat.div_eq_of_lt h];rfl
  by_cases hh:n<2^t.Attrs.length
  ·simp [hh,this.2 hh]
  ·have h3:¬ ((n / 2^t.Attrs.length:Nat):Int)=0:=fun h=>hh (this.1 h);rw [decide_eq_false hh];simpa using h3)
 rw [← h1];exact h2
theorem Beq {t:api_Table} (hr:t.Rows.length<=1000) {l r:Nat}:RefP (ofP t l) (ofP t r)↔SatP t l r:=by
 have hb:Akn (ofP t l) (ofP t r)=0:=by
  have v1:Acl (ofP t l)=true:=Amz (by rw [Afm];exact hr);have v2:Acl (ofP t r)=true:=Amz (by rw [Afm];exact hr);have e:(ofP t l).Rows=(ofP t r).Rows:=by simp [ofP,part,Afm]
  simp [Akn,v1,v2,e]
 have er:(ofP t l).Rows=(t.Rows.length:Int):=by simp [ofP,part,Afm]
 have key:∀ (n i j:Nat),i<t.Rows.length->j<t.Rows.length->(Same (ofP t n) i j↔(Aeq t n)[i]? = (Aeq t n)[j]?):=fun n i j hi hj=>by
  unfold ofP;rw [Be1 (by rw [Afm];omega) (by rw [Afm];omega),Ab4,Ab4]
 constructor
 ·rintro ⟨_,h⟩ i k hi hk e;exact (key r i k hi (by omega)).1 (h i k (by omega) (by omega) ((key l i k hi (by omega)).2 e))
 ·intro h;refine ⟨hb,fun i j hi hj hs=>?_⟩;obtain ⟨i,rfl⟩:∃ n:Nat,i=n:=⟨i.toNat,by omega⟩
  obtain ⟨j,rfl⟩:∃ n:Nat,j=n:=⟨j.toNat,by omega⟩
  exact (key r i j (by omega) (by omega)).2 (h.all (by omega) (by omega) ((key l i j (by omega) (by omega)).1 hs))
def Ajv (t:api_Table) (l r:Nat):Int:=if Ahl t=0 then (if l ||| r<2^t.Attrs.length then 0 else 6) else Ahl t
theorem q64_.spec {t:api_Table} {fd:api_FD} {l r:Nat} (hnum:TNum t) (el:fd.Lhs=l) (er:fd.Rhs=r) (hl:l<2^32) (hr:r<2^32):∃ q,q64_.C t fd q/\q.2=Ajv t l r/\(q.1=true↔Ajv t l r=0/\SatP t l r):=by
 obtain ⟨q,h1,h2⟩:=q64_.enter t fd (fun q=>q.2=Ajv t l r/\(q.1=true↔Ajv t l r=0/\SatP t l r)) (by
  refine ⟨_,q86_.spec,?_⟩;unfold Ajv
  split
  ·rename_i h0;have ht:=Ajh.1 h0;rw [el,er,Ajj (k:=.u32) (by simpa [top] using hl) (by simpa [top] using hr)];refine ⟨_,q48_.spec (Nat.or_lt_two_pow hl hr),?_⟩;by_cases hh:l ||| r<2^t.Attrs.length
   ·rw [if_pos (decide_eq_true hh),if_pos hh];have hll:l<2^t.Attrs.length:=Nat.lt_of_le_of_lt Nat.left_le_or hh;have hrr:r<2^t.Attrs.length:=Nat.lt_of_le_of_lt Nat.right_le_or hh;have sm:∀ m,Aib (ofP t m):=fun m=>Bbl (by rw [Afm];exact ht.nr);obtain ⟨b,hb,hbi⟩:=q44_.spec (sm l) (sm r);refine ⟨_,q84_.spec ht hnum hll,_,q84_.spec ht hnum hrr,b,hb,rfl,?_⟩;rw [hbi,Beq ht.nr];simp
   ·rw [if_neg (by simpa using hh),if_neg hh];simp
  ·rename_i h0;simp [h0])
 exact ⟨q,h2,h1⟩
end Go.Own
