/- What the functions that the law reaches answer. No conditions. -/
import Derived.Test.YtbemcminbfhakaaDoorRefuteFDLaw3
import Derived.Test.YtbemcminbfhakaaDoorRefuteFDLaw5
import Derived.Test.YtbemcminbfhakaaDoorRefuteFDLaw9
import Derived.Test.YtbemcminbfhakaaDoorBase1
import Derived.Test.YtbemcminbfhakaaDoorOwn25
import Derived.Test.YtbemcminbfhakaaDoorRefuteFDLaw1
set_option linter.all false
namespace Go.Own
theorem drossref02_Sub.spec {a b:Nat} (ha:a<2^32) (hb:b<2^32):drossref02_Sub.C a b (decide (a &&& b=a)):=by
 obtain ⟨r,h1,h2⟩:=drossref02_Sub.enter a b (fun r=>r=decide (a &&& b=a)) (by
  rw [bAnd_nat (k:=.u32) (by simpa [top] using ha) (by simpa [top] using hb)]
  by_cases h:a &&& b=a
  ·simp [h]
  ·have:¬ ((a &&& b:Nat):Int)=(a:Int):=by omega
   simp [h,this])
 rw [← h1];exact h2
end Go.Own
namespace Go.Own
namespace drossref02_Full
theorem loop {k:Nat} {φ:Int→Prop} (h:φ (fullN k)):∀ (m i:Nat),i+m=min k 32→L1 k ((2^i-1:Nat):Int) i φ
 | 0,i,hi=>by
  apply L1_step
  have e:((2^i-1:Nat):Int)=(fullN k:Int):=by unfold fullN;rw [← hi,Nat.add_zero]
  rw [e]
  split
  ·rw [if_neg (by omega)];exact h
  ·exact h
 | m+1,i,hi=>by
  apply L1_step
  rw [if_pos (by omega),if_pos (by omega)]
  refine ⟨by omega,?_⟩
  have hp:2^(i+1)≤2^32:=Nat.pow_le_pow_right (by decide) (by omega)
  have h2:0<2^i:=Nat.pos_of_ne_zero (by simp)
  rw [Nat.pow_succ] at hp
  rw [shl1_nat (k:=.u32) (by simp only [top];omega),bOr_nat (k:=.u32) (by simp only [top];omega) (by simp only [top];omega),wrap_succ (by omega)]
  have e:(2^i-1) ||| 2^i=2^(i+1)-1:=by
   apply Nat.eq_of_testBit_eq
   intro j
   rw [Nat.testBit_or,Nat.testBit_two_pow_sub_one,Nat.testBit_two_pow,Nat.testBit_two_pow_sub_one]
   by_cases h1:j<i
   ·have:j<i+1:=by omega
    simp [h1,this]
   ·by_cases h3:i=j
    ·subst h3;simp
    ·have:¬ j<i+1:=by omega
     simp [h1,h3,this]
  rw [e]
  exact loop h m (i+1) (by omega)
theorem spec {k:Nat}:C k (fullN k):=by
 obtain ⟨r,h1,h2⟩:=enter k (fun r=>r=(fullN k:Int)) (loop (φ:=fun r=>r=(fullN k:Int)) rfl (min k 32) 0 (by omega))
 rw [← h1];exact h2
end drossref02_Full
end Go.Own
namespace Go.Own
def FdOK (l:List api_FD):Prop:=∀ d∈l,U32 d.Lhs∧U32 d.Rhs
def inU (n:Nat) (l r:Int):Bool:=decide (sN l<2^n)&&decide (sN r<2^n)
theorem in_or {n:Nat} {l r:Int} (hl:U32 l) (hr:U32 r):(shrw .u32 (bOr .u32 l r) (n:Int)=0)↔inU n l r=true:=by
 rw [hl.eq,hr.eq,bOr_nat hl.top hr.top,shrw_nat (Nat.or_lt_two_pow hl.top hr.top)]
 unfold inU
 rw [Bool.and_eq_true,decide_eq_true_iff,decide_eq_true_iff]
 have e1:sN (sN l:Int)=sN l:=by unfold sN;omega
 have e2:sN (sN r:Int)=sN r:=by unfold sN;omega
 rw [e1,e2,← or_lt,← div_zero]
 omega
theorem sub_full {a n:Nat} (ha:a<2^32) (hn:n≤32):(a &&& fullN n=a)↔a<2^n:=by
 rw [sub_iff,lt_iff]
 constructor
 ·intro h i hi
  have:=h i hi
  rw [fullN_bit,decide_eq_true_iff] at this
  omega
 ·intro h i hi
  rw [fullN_bit,decide_eq_true_iff]
  have:=h i hi
  omega
theorem sub_in {n:Nat} {x:Int} (hn:n≤32) (hx:U32 x):drossref02_Sub.C x (fullN n) (decide (sN x<2^n)):=by
 have:=drossref02_Sub.spec (a:=sN x) (b:=fullN n) hx.lt fullN_lt
 rw [← hx.eq] at this
 have e:decide (sN x &&& fullN n=sN x)=decide (sN x<2^n):=by rw [decide_eq_decide];exact sub_full hx.lt hn
 rw [e] at this;exact this
def fdsE (n:Int) (l:List api_FD):Int:=if n<0∨16<n then 7 else if 64<l.length then 3 else if (l.all fun d=>inU n.toNat d.Lhs d.Rhs)=true then 0 else 1
theorem all_goal {α:Type} {l:List α} {p:α→Bool} {L:Int→Prop} {φ:Int→Prop} (stop:φ 0→L (l.length:Int))
  (step:∀ (k:Nat) a,l[k]? = some a→k<l.length→(if p a=true then L ((k+1:Nat):Int) else φ 1)→L k) (h:φ (if l.all p=true then 0 else 1)):L 0:=
 all_loop (l:=l) (p:=p) (L:=L) (φ:=fun b=>φ (if b=true then 0 else 1)) (fun h=>stop (by simpa using h)) (fun k a ha hk h=>step k a ha hk (by simpa using h)) h
theorem closure_Valid.spec {n:Int} {l:List api_FD} (hl:FdOK l):closure_Valid.C n l (fdsE n l):=by
 obtain ⟨r,h1,h2⟩:=closure_Valid.enter n l (fun r=>r=fdsE n l) (by
  by_cases a:n<0∨16<n
  ·have e:fdsE n l=7:=if_pos a
   rw [e]
   by_cases b:n<0
   ·rw [if_pos b]
   ·rw [if_neg b,if_pos (by omega)]
  ·rw [if_neg (by omega),if_neg (by omega)]
   by_cases b:64<l.length
   ·have e:fdsE n l=3:=by unfold fdsE;rw [if_neg a,if_pos b]
    rw [e,if_pos (by omega)]
   ·have e:fdsE n l=if (l.all fun d=>inU n.toNat d.Lhs d.Rhs)=true then 0 else 1:=by unfold fdsE;rw [if_neg a,if_neg b]
    rw [e,if_neg (by omega)]
    ·obtain ⟨m,rfl⟩:∃ m:Nat,n=m:=⟨n.toNat,by omega⟩
     refine all_goal (l:=l) (p:=fun d=>inU m d.Lhs d.Rhs) (L:=fun i=>closure_Valid.L1 m l i _) (φ:=fun r=>r=_) ?_ ?_ rfl
     ·intro h;apply closure_Valid.L1_step;rw [if_neg (by omega)];exact h
     ·intro k d hd hk h
      apply closure_Valid.L1_step
      rw [if_pos (by omega)]
      refine ⟨d,lget_of hd,by omega,?_⟩
      have hd':=hl d (List.mem_of_getElem? hd)
      have e:=in_or (n:=m) hd'.1 hd'.2
      rw [wrap_succ (by omega)]
      split
      ·rename_i hh;rw [if_pos (e.1 hh)] at h;exact h
      ·rename_i hh;rw [if_neg (fun h3=>hh (e.2 h3))] at h;exact h)
 rw [← h1];exact h2
theorem drossref09_Valid.spec {n:Int} {l:List api_FD} (hl:FdOK l):drossref09_Valid.C n l (fdsE n l):=by
 obtain ⟨r,h1,h2⟩:=drossref09_Valid.enter n l (fun r=>r=fdsE n l) (by
  by_cases a:n<0∨16<n
  ·have e:fdsE n l=7:=if_pos a
   rw [e]
   by_cases b:n<0
   ·rw [if_pos b]
   ·rw [if_neg b,if_pos (by omega)]
  ·rw [if_neg (by omega),if_neg (by omega)]
   by_cases b:64<l.length
   ·have e:fdsE n l=3:=by unfold fdsE;rw [if_neg a,if_pos b]
    rw [e,if_pos (by omega)]
   ·have e:fdsE n l=if (l.all fun d=>inU n.toNat d.Lhs d.Rhs)=true then 0 else 1:=by unfold fdsE;rw [if_neg a,if_neg b]
    rw [e,if_neg (by omega)]
    ·obtain ⟨m,rfl⟩:∃ m:Nat,n=m:=⟨n.toNat,by omega⟩
     refine ⟨_,drossref02_Full.spec,?_⟩
     refine all_goal (l:=l) (p:=fun d=>inU m d.Lhs d.Rhs) (L:=fun i=>drossref09_Valid.L1 l (fullN m) i _) (φ:=fun r=>r=_) ?_ ?_ rfl
     ·intro h;apply drossref09_Valid.L1_step;rw [if_neg (by omega)];exact h
     ·intro k d hd hk h
      apply drossref09_Valid.L1_step
      rw [if_pos (by omega)]
      have hd':=hl d (List.mem_of_getElem? hd)
      refine ⟨d,lget_of hd,_,sub_in (by omega) hd'.1,?_⟩
      rw [wrap_succ (by omega)]
      unfold inU at h
      split
      ·rename_i hh
       refine ⟨_,sub_in (by omega) hd'.2,?_⟩
       split
       ·rename_i h3;rw [if_pos (by rw [hh,h3];rfl)] at h;exact h
       ·rename_i h3;rw [if_neg (by rw [hh,Bool.true_and];exact h3)] at h;exact h
      ·rename_i hh;rw [if_neg (by rw [Bool.eq_false_iff.2 hh];simp)] at h;exact h)
 rw [← h1];exact h2
theorem fdsE_n {n:Int} {l:List api_FD} (h:fdsE n l=0):0≤n∧n≤16:=by
 unfold fdsE at h
 split at h
 ·cases h
 ·omega
end Go.Own
namespace Go.Own
def passN:List api_FD→Nat→Nat
 | [],s=>s
 | d::l,s=>passN l (if sN d.Lhs &&& s=sN d.Lhs then s ||| sN d.Rhs else s)
def passK (l:List api_FD):Nat→Nat→Nat
 | 0,s=>s
 | k+1,s=>passK l k (passN l s)
def cloN (l:List api_FD) (s:Nat):Nat:=passK l 33 s
def subN (a b:Nat):Prop:=∀ i,a.testBit i=true→b.testBit i=true
theorem subN_refl (a:Nat):subN a a:=fun _ h=>h
theorem subN_trans {a b c:Nat} (h:subN a b) (k:subN b c):subN a c:=fun i hi=>k i (h i hi)
theorem subN_or {a b:Nat}:subN a (a ||| b):=fun i hi=>by rw [Nat.testBit_or,hi];rfl
theorem subN_anti {a b:Nat} (h:subN a b) (k:subN b a):a=b:=Nat.eq_of_testBit_eq fun i=>by
 cases ha:a.testBit i with
 | true=>exact (h i ha).symm
 | false=>
  cases hb:b.testBit i with
  | true=>rw [k i hb] at ha;cases ha
  | false=>rfl
theorem passN_up:∀ {l:List api_FD} {s:Nat},subN s (passN l s)
 | [],s=>subN_refl s
 | d::l,s=>by
  rw [passN]
  split
  ·exact subN_trans subN_or passN_up
  ·exact passN_up
theorem passN_lt:∀ {l:List api_FD} {s n:Nat},s<2^n→(∀ d∈l,sN d.Rhs<2^n)→passN l s<2^n
 | [],_,_,h,_=>h
 | d::l,s,n,h,hl=>by
  rw [passN]
  refine passN_lt ?_ fun x hx=>hl x (by simp [hx])
  split
  ·exact Nat.or_lt_two_pow h (hl d (by simp))
  ·exact h
def IsClo (l:List api_FD) (s:Nat):Prop:=∀ d∈l,subN (sN d.Lhs) s→subN (sN d.Rhs) s
theorem passN_fix:∀ {l:List api_FD} {s:Nat},passN l s=s→IsClo l s
 | [],_,_=>fun d hd=>by cases hd
 | d::l,s,h=>by
  rw [passN] at h
  have h1:(if sN d.Lhs &&& s=sN d.Lhs then s ||| sN d.Rhs else s)=s:=by
   refine subN_anti ?_ ?_
   ·have:=passN_up (l:=l) (s:=if sN d.Lhs &&& s=sN d.Lhs then s ||| sN d.Rhs else s)
    rw [h] at this;exact this
   ·split
    ·exact subN_or
    ·exact subN_refl s
  rw [h1] at h
  intro x hx hs
  rcases List.mem_cons.1 hx with rfl | hx
  ·rw [if_pos (sub_iff.2 hs)] at h1
   intro i hi
   rw [← h1,Nat.testBit_or,hi,Bool.or_true]
  ·exact passN_fix h x hx hs
theorem passK_fix {l:List api_FD} {s:Nat} (h:passN l s=s):∀ k,passK l k s=s
 | 0=>rfl
 | k+1=>by rw [passK,h];exact passK_fix h k
theorem szN_lt {a b:Nat} (hs:subN a b) (hne:a≠b) (hb:b<2^32):szN a<szN b:=by
 have hex:∃ i,b.testBit i=true∧a.testBit i=false:=by
  false_or_by_contra
  rename_i h
  refine hne (subN_anti hs fun i hi=>?_)
  cases ha:a.testBit i with
  | true=>rfl
  | false=>exact absurd ⟨i,hi,ha⟩ h
 obtain ⟨i,h1,h2⟩:=hex
 have hmem:i∈bitsOf b:=(bitsOf_mem hb).2 h1
 have ha:a<2^32:=by
  refine lt_iff.2 fun j hj=>?_
  exact lt_iff.1 hb j (hs j hj)
 have hsub:(bitsOf a).length+1≤(bitsOf b).length:=by
  have hnd:(i::bitsOf a).Nodup:=by
   rw [List.nodup_cons]
   refine ⟨fun h=>?_,(bitsOf_sorted (n:=a)).imp fun h=>by omega⟩
   rw [bitsOf_mem ha,h2] at h;cases h
  have:(i::bitsOf a) ⊆ bitsOf b:=by
   intro x hx
   rcases List.mem_cons.1 hx with rfl | hx
   ·exact hmem
   ·exact (bitsOf_mem hb).2 (hs x ((bitsOf_mem ha).1 hx))
  exact hnd.length_le_of_subset this
 exact hsub
theorem passK_done {l:List api_FD} (hl:∀ d∈l,sN d.Rhs<2^32):∀ {k s:Nat},s<2^32→33≤k+szN s→passN l (passK l k s)=passK l k s
 | 0,s,hs,hk=>by have:=bitsOf_len (n:=s);unfold szN at hk;omega
 | k+1,s,hs,hk=>by
  rw [passK]
  by_cases h:passN l s=s
  ·rw [h,passK_fix h,h]
  ·have:=szN_lt (passN_up (l:=l)) (Ne.symm h) (passN_lt hs hl)
   exact passK_done hl (passN_lt hs hl) (by omega)
theorem passK_up {l:List api_FD}:∀ {k s:Nat},subN s (passK l k s)
 | 0,s=>subN_refl s
 | k+1,s=>subN_trans passN_up passK_up
theorem passK_lt {l:List api_FD} {n:Nat} (hl:∀ d∈l,sN d.Rhs<2^n):∀ {k s:Nat},s<2^n→passK l k s<2^n
 | 0,_,h=>h
 | k+1,_,h=>passK_lt hl (k:=k) (passN_lt h hl)
theorem cloN_up {l:List api_FD} {s:Nat}:subN s (cloN l s):=passK_up
theorem cloN_clo {l:List api_FD} {s:Nat} (hl:∀ d∈l,sN d.Rhs<2^32) (hs:s<2^32):IsClo l (cloN l s):=passN_fix (passK_done hl hs (by omega))
theorem cloN_lt {l:List api_FD} {n s:Nat} (hl:∀ d∈l,sN d.Rhs<2^n) (hs:s<2^n):cloN l s<2^n:=passK_lt hl hs
end Go.Own
namespace Go.Own
namespace drossref02_Has
theorem spec {n i:Nat} (hn:n<2^32):C n i (n.testBit i):=by
 obtain ⟨r,h1,h2⟩:=enter n i (fun r=>r=n.testBit i) (by
  rw [if_pos (by omega)]
  split
  ·refine ⟨by omega,?_⟩
   rw [bit_nat (k:=.u32) (by simpa [top] using hn) (by decide)]
   cases n.testBit i<;>rfl
  ·rw [Nat.testBit_lt_two_pow (Nat.lt_of_lt_of_le hn (Nat.pow_le_pow_right (by decide) (by omega)))])
 rw [← h1];exact h2
end drossref02_Has
end Go.Own
namespace Go.Own
end Go.Own
namespace Go.Own
def letB (x:Int):Bool:=decide (97≤x∧x≤122∨65≤x∧x≤90∨x=95)
def alnB (x:Int):Bool:=letB x || decide (48≤x∧x≤57)
def nullB:List UInt8:=[110,117,108,108]
theorem bl_nil:((⟨#[]⟩:ByteArray)).toList=[]:=bl_mk (l:=[])
def nameL:List UInt8→Bool
 | []=>false
 | b::r=>decide (r.length<24)&&letB (u8i b)&&!decide (b::r=nullB)&&r.all fun b=>alnB (u8i b)
def nameF (s:ByteArray):Bool:=nameL s.toList
namespace drossref03_letter
end drossref03_letter
namespace drossref03_Name
end drossref03_Name
def eqS (x a:ByteArray):Bool:=decide (a=x)
def namesGo:List ByteArray→List ByteArray→Bool
 | _,[]=>true
 | pre,a::r=>nameF a&&!pre.any (eqS a)&&namesGo (pre++[a]) r
def namesF (l:List ByteArray):Bool:=namesGo [] l
namespace drossref03_Attr
end drossref03_Attr
def validV (v:api_Value):Bool:=decide (v.Kind=0∧v.Num=0∧v.Str.toList=[]∨v.Kind=1∧v.Str.toList=[]∨v.Kind=2∧v.Num=0∧v.Str.toList.length≤200∨v.Kind=3∧1≤v.Num∧v.Str.toList=[])
def validsF (l:List api_Value):Bool:=l.all validV
def rowsF (n:Nat):Int→List api_Row→Int
 | _,[]=>0
 | last,r::rs=>if r.ID≤last then 1 else if r.Values.length=n then (if validsF r.Values=true then rowsF n r.ID rs else 1) else 6
namespace drossref03_Valid
end drossref03_Valid
end Go.Own

namespace Go.Own
theorem cmpI_zero {a b:Int}:cmpI a b=0↔a=b:=by
 unfold cmpI;repeat' split
 all_goals omega
theorem drossref01_sign.spec {a b:Int}:drossref01_sign.C a b (cmpI a b):=by
 obtain ⟨r,h1,h2⟩:=drossref01_sign.enter a b (fun r=>r=cmpI a b) (by
  unfold cmpI;repeat' split
  all_goals first | rfl | omega)
 rw [← h1];exact h2
def cmpL:List UInt8→List UInt8→Int
 | [],[]=>0
 | [],_::_=>-1
 | _::_,[]=>1
 | a::r,b::s=>if a=b then cmpL r s else cmpI (u8i a) (u8i b)
theorem cmpL_zero:∀ {a b:List UInt8},cmpL a b=0↔a=b
 | [],[]=>by simp [cmpL]
 | [],_::_=>by simp [cmpL]
 | _::_,[]=>by simp [cmpL]
 | a::r,b::s=>by
  simp only [cmpL]
  split
  ·rename_i h;subst h;rw [cmpL_zero];simp
  ·rename_i h
   rw [cmpI_zero,u8i_inj];simp [h]
def cmpS (a b:ByteArray):Int:=cmpL a.toList b.toList
theorem cmpL_len:∀ {a b:List UInt8},(a=[]∨b=[])→cmpI a.length b.length=cmpL a b
 | [],[],_=>rfl
 | [],_::r,_=>by
  simp only [cmpL,cmpI,List.length_cons,List.length_nil]
  rw [if_pos (by omega)]
 | _::r,[],_=>by
  simp only [cmpL,cmpI,List.length_cons,List.length_nil]
  rw [if_neg (by omega),if_pos (by omega)]
 | _::_,_::_,h=>by simp at h
namespace drossref01_strings
theorem loop {a b:ByteArray} {φ:Int→Prop} (hn:a.toList.length<Big):∀ (r s:List UInt8) (k:Nat),a.toList.drop k=r→b.toList.drop k=s→k≤a.toList.length→k≤b.toList.length→φ (cmpL r s)→L1 a b k φ:=by
 have fin:∀ (r s:List UInt8) (k:Nat),a.toList.drop k=r→b.toList.drop k=s→k≤a.toList.length→k≤b.toList.length→(r=[]∨s=[])→φ (cmpL r s)→L2 a b φ:=by
  intro r s k hr hs hk hk2 h0 h
  apply L2_step
  refine ⟨_,drossref01_sign.spec,?_⟩
  rw [bsize_eq,bsize_eq]
  have e:cmpI a.toList.length b.toList.length=cmpI r.length s.length:=by
   rw [← hr,← hs,List.length_drop,List.length_drop]
   unfold cmpI
   repeat' split
   all_goals omega
  rw [e,cmpL_len h0];exact h
 intro r
 induction r with
 | nil=>
  intro s k hr hs hk hk2 h
  apply L1_step
  have:=drop_ge hr
  rw [bsize_eq,if_neg (by omega)]
  exact fin _ _ k hr hs hk hk2 (.inl rfl) h
 | cons x r ih=>
  intro s k hr hs hk hk2 h
  apply L1_step
  have hlt:=drop_lt hr
  rw [bsize_eq,if_pos (by omega),bsize_eq]
  match s,hs,h with
  | [],hs,h=>
   have:=drop_ge hs
   rw [if_neg (by omega)]
   exact fin _ _ k hr hs hk hk2 (.inr rfl) h
  | y::s,hs,h=>
   have hlt2:=drop_lt hs
   rw [if_pos (by omega)]
   refine ⟨x,bget_of (drop_get hr),y,bget_of (drop_get hs),?_⟩
   simp only [cmpL] at h
   split
   ·rename_i he
    rw [if_pos (u8i_inj.1 he)] at h
    rw [wrap_succ (by unfold Big at hn;omega)]
    exact ih s (k+1) (drop_next hr) (drop_next hs) hlt hlt2 h
   ·rename_i he
    rw [if_neg (fun hh=>he (u8i_inj.2 hh))] at h
    refine ⟨x,bget_of (drop_get hr),y,bget_of (drop_get hs),_,drossref01_sign.spec,?_⟩
    have b1:=u8i_lt (b:=x);have b2:=u8i_lt (b:=y)
    rw [wrap_id (by omega) (by omega),wrap_id (by omega) (by omega)]
    exact h
theorem spec {a b:ByteArray} (hn:a.toList.length<Big):C a b (cmpS a b):=by
 obtain ⟨r,h1,h2⟩:=enter a b (fun r=>r=cmpS a b) (loop hn a.toList b.toList 0 rfl rfl (by omega) (by omega) rfl)
 rw [← h1];exact h2
end drossref01_strings
def cmpV (v w:api_Value):Int:=if cmpI v.Kind w.Kind=0 then (if cmpI v.Num w.Num=0 then cmpS v.Str w.Str else cmpI v.Num w.Num) else cmpI v.Kind w.Kind
theorem cmpV_zero {v w:api_Value}:cmpV v w=0↔v=w:=by
 obtain ⟨k,n,s⟩:=v
 obtain ⟨k',n',s'⟩:=w
 unfold cmpV cmpS
 simp only [api_Value.mk.injEq]
 split
 ·rename_i h1;rw [cmpI_zero] at h1
  split
  ·rename_i h2;rw [cmpI_zero] at h2
   rw [cmpL_zero,bl_inj];simp [h1,h2]
  ·rename_i h2
   have h3:=h2
   rw [cmpI_zero] at h3
   simp [h2,h3]
 ·rename_i h1
  have h3:=h1
  rw [cmpI_zero] at h3
  simp [h1,h3]
theorem drossref01_Compare.spec {v w:api_Value} (hn:v.Str.toList.length<Big):drossref01_Compare.C v w (cmpV v w):=by
 obtain ⟨r,h1,h2⟩:=drossref01_Compare.enter v w (fun r=>r=cmpV v w) (by
  refine ⟨_,drossref01_sign.spec,?_⟩
  unfold cmpV
  split
  ·refine ⟨_,drossref01_sign.spec,?_⟩
   split
   ·exact ⟨_,drossref01_strings.spec hn,rfl⟩
   ·rfl
  ·rfl)
 rw [← h1];exact h2
def StrOK (l:List api_Value):Prop:=l.length<Big∧∀ v∈l,v.Str.toList.length<Big
def cmpVs:List api_Value→List api_Value→Int
 | [],[]=>0
 | [],_::_=>-1
 | _::_,[]=>1
 | a::r,b::s=>if cmpV a b=0 then cmpVs r s else cmpV a b
theorem cmpVs_zero:∀ {a b:List api_Value},cmpVs a b=0↔a=b
 | [],[]=>by simp [cmpVs]
 | [],_::_=>by simp [cmpVs]
 | _::_,[]=>by simp [cmpVs]
 | a::r,b::s=>by
  simp only [cmpVs]
  split
  ·rename_i h;rw [cmpVs_zero];rw [cmpV_zero] at h;simp [h]
  ·rename_i h
   have h2:=h
   rw [cmpV_zero] at h2
   simp [h,h2]
theorem cmpVs_len:∀ {a b:List api_Value},(a=[]∨b=[])→cmpI a.length b.length=cmpVs a b
 | [],[],_=>rfl
 | [],_::r,_=>by
  simp only [cmpVs,cmpI,List.length_cons,List.length_nil]
  rw [if_pos (by omega)]
 | _::r,[],_=>by
  simp only [cmpVs,cmpI,List.length_cons,List.length_nil]
  rw [if_neg (by omega),if_pos (by omega)]
 | _::_,_::_,h=>by simp at h
namespace drossref01_Lists
theorem loop {a b:List api_Value} {φ:Int→Prop} (hn:StrOK a):∀ (r s:List api_Value) (k:Nat),a.drop k=r→b.drop k=s→k≤a.length→k≤b.length→φ (cmpVs r s)→L1 a b k φ:=by
 have fin:∀ (r s:List api_Value) (k:Nat),a.drop k=r→b.drop k=s→k≤a.length→k≤b.length→(r=[]∨s=[])→φ (cmpVs r s)→L2 a b φ:=by
  intro r s k hr hs hk hk2 h0 h
  apply L2_step
  refine ⟨_,drossref01_sign.spec,?_⟩
  have e:cmpI a.length b.length=cmpI r.length s.length:=by
   rw [← hr,← hs,List.length_drop,List.length_drop]
   unfold cmpI
   repeat' split
   all_goals omega
  rw [e,cmpVs_len h0];exact h
 intro r
 induction r with
 | nil=>
  intro s k hr hs hk hk2 h
  apply L1_step
  have:=drop_ge hr
  rw [if_neg (by omega)]
  exact fin _ _ k hr hs hk hk2 (.inl rfl) h
 | cons x r ih=>
  intro s k hr hs hk hk2 h
  apply L1_step
  have hlt:=drop_lt hr
  rw [if_pos (by omega)]
  match s,hs,h with
  | [],hs,h=>
   have:=drop_ge hs
   rw [if_neg (by omega)]
   exact fin _ _ k hr hs hk hk2 (.inr rfl) h
  | y::s,hs,h=>
   have hlt2:=drop_lt hs
   rw [if_pos (by omega)]
   refine ⟨x,lget_drop hr,y,lget_drop hs,_,drossref01_Compare.spec (hn.2 x (List.mem_of_getElem? (drop_get hr))),?_⟩
   simp only [cmpVs] at h
   split
   ·rename_i he
    rw [if_pos he] at h
    rw [wrap_succ (by have:=hn.1;unfold Big at this;omega)]
    exact ih s (k+1) (drop_next hr) (drop_next hs) hlt hlt2 h
   ·rename_i he
    rw [if_neg he] at h
    exact h
theorem spec {a b:List api_Value} (hn:StrOK a):C a b (cmpVs a b):=by
 obtain ⟨r,h1,h2⟩:=enter a b (fun r=>r=cmpVs a b) (loop hn a b 0 rfl rfl (by omega) (by omega) rfl)
 rw [← h1];exact h2
end drossref01_Lists
theorem drossref01_Same.spec {a b:List api_Value} (hn:StrOK a):drossref01_Same.C a b (decide (a=b)):=by
 obtain ⟨r,h1,h2⟩:=drossref01_Same.enter a b (fun r=>r=decide (a=b)) ⟨_,drossref01_Lists.spec hn,by
  by_cases h:a=b
  ·simp [h,cmpVs_zero.2 rfl]
  ·have:cmpVs a b≠0:=fun hh=>h (cmpVs_zero.1 hh)
   simp [h,this]⟩
 rw [← h1];exact h2
theorem validV_cases {v:api_Value} (h:validV v=true):v.Kind=0∧v.Num=0∧v.Str.toList=[]∨v.Kind=1∧v.Str.toList=[]∨v.Kind=2∧v.Num=0∧v.Str.toList.length≤200∨v.Kind=3∧1≤v.Num∧v.Str.toList=[]:=by
 simpa [validV] using h
def b8 (x:Int):UInt8:=UInt8.ofNat x.toNat
end Go.Own
namespace Go.Own
def pick (l:List api_Value) (n:Nat):List api_Value:=(bitsOf n).filterMap fun i=>l[i]?
theorem fm_congr {α β:Type} {f g:α→Option β}:∀ {l:List α},(∀ a∈l,f a=g a)→l.filterMap f=l.filterMap g
 | [],_=>rfl
 | a::l,h=>by
  have ih:=fm_congr (l:=l) fun b hb=>h b (by simp [hb])
  simp only [List.filterMap_cons,h a (by simp),ih]
theorem bits_upto {n k:Nat} (hn:n<2^32):(bitsOf n).filter (fun i=>decide (i<k+1))=(bitsOf n).filter (fun i=>decide (i<k))++if n.testBit k=true then [k] else []:=by
 refine sorted_ext (bitsOf_sorted.filter _) ?_ fun x=>?_
 ·rw [List.pairwise_append]
  refine ⟨bitsOf_sorted.filter _,by split<;>simp,fun a ha b hb=>?_⟩
  have ha:=(List.mem_filter.1 ha).2
  split at hb
  ·simp at hb ha;omega
  ·simp at hb
 ·simp only [List.mem_filter,List.mem_append,decide_eq_true_eq]
  split
  ·rename_i h
   rw [List.mem_singleton]
   constructor
   ·rintro ⟨h1,h2⟩
    by_cases hx:x<k
    ·exact .inl ⟨h1,hx⟩
    ·exact .inr (by omega)
   ·rintro (⟨h1,h2⟩ | rfl)
    ·exact ⟨h1,by omega⟩
    ·exact ⟨(bitsOf_mem hn).2 h,by omega⟩
  ·rename_i h
   constructor
   ·rintro ⟨h1,h2⟩
    have:x≠k:=fun e=>h (e ▸ (bitsOf_mem hn).1 h1)
    exact .inl ⟨h1,by omega⟩
   ·rintro (⟨h1,h2⟩ | h1)
    ·exact ⟨h1,by omega⟩
    ·simp at h1
namespace drossref03_Values
theorem spec {r:api_Row} {n:Nat} (hn:n<2^32) (hr:r.Values.length≤1000):C r n (pick r.Values n):=by
 obtain ⟨q,h1,h2⟩:=enter r n (fun q=>q=pick r.Values n) (by
  have loop:∀ k,k≤r.Values.length→L1 r n (((bitsOf n).filter fun i=>decide (i<k)).filterMap fun i=>r.Values[i]?) k fun q=>q=pick r.Values n:=by
   refine down ?_ ?_
   ·apply L1_step
    rw [if_neg (by omega)]
    unfold pick
    rw [List.filterMap_filter]
    refine fm_congr fun i hi=>?_
    by_cases h:i<r.Values.length
    ·simp [h]
    ·simp [h]
   ·intro k hk h
    apply L1_step
    rw [if_pos (by omega)]
    have hget:=List.getElem?_eq_getElem hk
    have hlen:(((bitsOf n).filter fun i=>decide (i<k)).filterMap fun i=>r.Values[i]?).length≤32:=
     Nat.le_trans (List.length_filterMap_le _ _) (Nat.le_trans (List.length_filter_le _ _) bitsOf_len)
    rw [bits_upto hn,List.filterMap_append] at h
    refine ⟨_,drossref02_Has.spec hn,?_⟩
    have next:∀ l,l=(((bitsOf n).filter fun i=>decide (i<k)).filterMap fun i=>r.Values[i]?)++((if n.testBit k=true then [k] else []).filterMap fun i=>r.Values[i]?)→L2 r n l k fun q=>q=pick r.Values n:=by
     rintro _ rfl
     apply L2_step
     rw [wrap_succ (by omega)]
     exact h
    split
    ·rename_i hb
     exact ⟨r.Values[k],lget_of hget,by omega,next _ (by simp [hb,hget])⟩
    ·rename_i hb
     exact next _ (by simp [hb])
  have:=loop 0 (Nat.zero_le _)
  have e:(bitsOf n).filter (fun i=>decide (i<0))=[]:=by rw [List.filter_eq_nil_iff];simp
  rw [e] at this
  exact this)
 rw [← h1];exact h2
end drossref03_Values
def agreeF (a b:List api_Value) (n:Nat):Bool:=decide (pick a n=pick b n)
theorem fm_eq {a b:List api_Value} (hl:a.length=b.length):∀ {l:List Nat},(l.filterMap fun i=>a[i]?)=(l.filterMap fun i=>b[i]?)↔∀ i∈l,a[i]? = b[i]?
 | []=>by simp
 | k::l=>by
  have ih:=fm_eq (a:=a) (b:=b) hl (l:=l)
  by_cases h:k<a.length
  ·have e1:=List.getElem?_eq_getElem h
   have e2:=List.getElem?_eq_getElem (l:=b) (i:=k) (by omega)
   simp only [List.filterMap_cons,e1,e2,List.cons.injEq,ih,List.forall_mem_cons,Option.some.injEq]
  ·have e1:a[k]? = none:=List.getElem?_eq_none (by omega)
   have e2:b[k]? = none:=List.getElem?_eq_none (by omega)
   simp only [List.filterMap_cons,e1,e2,ih,List.forall_mem_cons,true_and]
theorem agree_iff {a b:List api_Value} {n:Nat} (hn:n<2^32) (hl:a.length=b.length):agreeF a b n=true↔∀ i,n.testBit i=true→a[i]? = b[i]?:=by
 unfold agreeF pick
 rw [decide_eq_true_iff,fm_eq hl]
 constructor
 ·exact fun h i hi=>h i ((bitsOf_mem hn).2 hi)
 ·exact fun h i hi=>h i ((bitsOf_mem hn).1 hi)
theorem pick_sub {l:List api_Value} {n:Nat}:∀ v∈pick l n,v∈l:=by
 intro v hv
 obtain ⟨i,_,hi⟩:=List.mem_filterMap.1 hv
 exact List.mem_of_getElem? hi
theorem pick_len {l:List api_Value} {n:Nat}:(pick l n).length≤32:=Nat.le_trans (List.length_filterMap_le _ _) bitsOf_len
theorem drossref03_Agree.spec {a b:api_Row} {n:Nat} (hn:n<2^32) (ha:a.Values.length≤1000) (hb:b.Values.length≤1000) (hs:∀ v∈a.Values,v.Str.toList.length<Big):drossref03_Agree.C a b n (agreeF a.Values b.Values n):=by
 obtain ⟨q,h1,h2⟩:=drossref03_Agree.enter a b n (fun q=>q=agreeF a.Values b.Values n)
  ⟨_,drossref03_Values.spec hn ha,_,drossref03_Values.spec hn hb,_,drossref01_Same.spec ⟨by have:=pick_len (l:=a.Values) (n:=n);unfold Big;omega,fun v hv=>hs v (pick_sub v hv)⟩,rfl⟩
 rw [← h1];exact h2
structure TV (t:api_Table):Prop where
 name:nameF t.Name=true
 na:t.Attrs.length≤16
 nr:t.Rows.length≤1000
 names:namesF t.Attrs=true
 rows:rowsF t.Attrs.length 0 t.Rows=0
theorem rowsF_row {n:Nat}:∀ {l:List api_Row} {last:Int},rowsF n last l=0→∀ r∈l,r.Values.length=n∧(∀ v∈r.Values,validV v=true)∧last<r.ID
 | [],_,_,r,hr=>by cases hr
 | a::l,last,h,r,hr=>by
  simp only [rowsF] at h
  split at h
  ·cases h
  ·split at h
   ·split at h
    ·rename_i h1 h2 h3
     unfold validsF at h3
     rw [List.all_eq_true] at h3
     rcases List.mem_cons.1 hr with rfl | hr
     ·exact ⟨h2,h3,by omega⟩
     ·obtain ⟨e1,e2,e3⟩:=rowsF_row h r hr
      exact ⟨e1,e2,by omega⟩
    ·cases h
   ·cases h
theorem TV.len {t:api_Table} (h:TV t) {r:api_Row} (hr:r∈t.Rows):r.Values.length=t.Attrs.length:=(rowsF_row h.rows r hr).1
theorem TV.val {t:api_Table} (h:TV t) {r:api_Row} (hr:r∈t.Rows):∀ v∈r.Values,validV v=true:=(rowsF_row h.rows r hr).2.1
theorem valid_str {v:api_Value} (h:validV v=true):v.Str.toList.length≤200:=by
 rcases validV_cases h with h | h | h | h
 ·rw [h.2.2];simp
 ·rw [h.2];simp
 ·exact h.2.2
 ·rw [h.2.2];simp
end Go.Own
namespace Go.Own
def picks (t:api_Table) (n:Nat):List (List api_Value):=t.Rows.map fun r=>pick r.Values n
theorem pick_iff {t:api_Table} (ht:TV t) {n i j:Nat} (hn:n<2^32) (hi:i<t.Rows.length) (hj:j<t.Rows.length):(picks t n)[i]? = (picks t n)[j]?↔∀ k,n.testBit k=true→(t.Rows[i]'hi).Values[k]? = (t.Rows[j]'hj).Values[k]?:=by
 unfold picks
 rw [List.getElem?_map,List.getElem?_map,List.getElem?_eq_getElem hi,List.getElem?_eq_getElem hj]
 simp only [Option.map_some,Option.some.injEq]
 rw [← agree_iff hn (by rw [ht.len (List.getElem_mem hi),ht.len (List.getElem_mem hj)])]
 unfold agreeF
 rw [decide_eq_true_iff]
def OkP (t:api_Table) (l r i k:Nat):Prop:=(picks t l)[i]? = (picks t l)[k]?→(picks t r)[i]? = (picks t r)[k]?
def SatP (t:api_Table) (l r:Nat):Prop:=∀ i k,i<t.Rows.length→k<i→OkP t l r i k
theorem agr {t:api_Table} {n i k:Nat} (hi:i<t.Rows.length) (hk:k<t.Rows.length):agreeF (t.Rows[i]).Values (t.Rows[k]).Values n=true↔(picks t n)[i]? = (picks t n)[k]?:=by
 unfold picks agreeF
 rw [List.getElem?_map,List.getElem?_map,List.getElem?_eq_getElem hi,List.getElem?_eq_getElem hk]
 simp
def EqA (t:api_Table) (i k a:Nat):Prop:=(t.Rows[i]?.map fun r=>r.Values[a]?)=(t.Rows[k]?.map fun r=>r.Values[a]?)
instance (t:api_Table) (i k a:Nat):Decidable (EqA t i k a):=by unfold EqA;infer_instance
theorem pick_eqA {t:api_Table} (ht:TV t) {n i j:Nat} (hn:n<2^32) (hi:i<t.Rows.length) (hj:j<t.Rows.length):(picks t n)[i]? = (picks t n)[j]?↔∀ k,n.testBit k=true→EqA t i j k:=by
 rw [pick_iff ht hn hi hj]
 unfold EqA
 rw [List.getElem?_eq_getElem hi,List.getElem?_eq_getElem hj]
 simp only [Option.map_some,Option.some.injEq]
theorem sat_iff {t:api_Table} (ht:TV t) {l r:Nat} (hl:l<2^32) (hr:r<2^32):SatP t l r↔∀ i k,i<t.Rows.length→k<i→(∀ a,l.testBit a=true→EqA t i k a)→∀ a,r.testBit a=true→EqA t i k a:=by
 unfold SatP OkP
 constructor
 ·intro h i k hi hk
  have:=h i k hi hk
  rw [pick_eqA ht hl hi (by omega),pick_eqA ht hr hi (by omega)] at this
  exact this
 ·intro h i k hi hk
  rw [pick_eqA ht hl hi (by omega),pick_eqA ht hr hi (by omega)]
  exact h i k hi hk
end Go.Own
namespace Go.Own
theorem drossref03_Strings.self {l:List ByteArray} (hn:l.length<Big):drossref03_Strings.C l l true:=by
 obtain ⟨r,h1,h2⟩:=drossref03_Strings.enter l l (fun r=>r=true) (by
  rw [if_pos rfl]
  have:∀ (r:List ByteArray) (k:Nat),l.drop k=r→drossref03_Strings.L1 l l k (fun r=>r=true):=by
   intro r
   induction r with
   | nil=>
    intro k hd
    have:=drop_ge hd
    apply drossref03_Strings.L1_step
    rw [if_neg (by omega)]
   | cons s r ih=>
    intro k hd
    have hlt:=drop_lt hd
    apply drossref03_Strings.L1_step
    rw [if_pos (by omega)]
    refine ⟨s,lget_drop hd,s,lget_drop hd,?_⟩
    rw [if_pos rfl,wrap_succ (by unfold Big at hn;omega)]
    exact ih (k+1) (drop_next hd)
  exact this l 0 rfl)
 subst h1;exact h2
theorem drossref03_EqualRows.self {a:api_Row} (h:StrOK a.Values):drossref03_EqualRows.C a a true:=by
 obtain ⟨r,h1,h2⟩:=drossref03_EqualRows.enter a a (fun r=>r=true) (by
  rw [if_pos rfl]
  exact ⟨_,drossref01_Same.spec h,decide_eq_true rfl⟩)
 subst h1;exact h2
theorem drossref03_Equal.self {t:api_Table} (ha:t.Attrs.length<Big) (hr:t.Rows.length<Big) (h:∀ r∈t.Rows,StrOK r.Values):drossref03_Equal.C t t true:=by
 obtain ⟨r,h1,h2⟩:=drossref03_Equal.enter t t (fun r=>r=true) (by
  rw [if_pos rfl]
  refine ⟨true,drossref03_Strings.self ha,?_⟩
  rw [if_pos rfl,if_pos rfl]
  have:∀ (q:List api_Row) (k:Nat),t.Rows.drop k=q→drossref03_Equal.L1 t t k (fun r=>r=true):=by
   intro q
   induction q with
   | nil=>
    intro k hd
    have:=drop_ge hd
    apply drossref03_Equal.L1_step
    rw [if_neg (by omega)]
   | cons s q ih=>
    intro k hd
    have hlt:=drop_lt hd
    apply drossref03_Equal.L1_step
    rw [if_pos (by omega)]
    refine ⟨s,lget_drop hd,s,lget_drop hd,true,drossref03_EqualRows.self (h s (List.mem_of_getElem? (drop_get hd))),?_⟩
    rw [if_pos rfl,wrap_succ (by unfold Big at hr;omega)]
    exact ih (k+1) (drop_next hd)
  exact this t.Rows 0 rfl)
 subst h1;exact h2
end Go.Own
namespace Go.Own
end Go.Own
namespace Go.Own
end Go.Own
namespace Go.Own
namespace drossref08_Satisfies
theorem inner {t:api_Table} {fd:api_FD} {l r:Nat} {φ:Bool→Prop} {i:Nat} (ht:TV t) (el:fd.Lhs=l) (er:fd.Rhs=r) (hl:l<2^32) (hr:r<2^32) (hi:i<t.Rows.length) (hf:¬ SatP t l r→φ false)
  (h:(∀ k,k<i→OkP t l r i k)→L1 t fd ((i+1:Nat):Int) φ):∀ k,k≤i→((∀ j,j<k→OkP t l r i j)→L2 t fd i k φ):=by
 have nr:=ht.nr
 have na:=ht.na
 refine down ?_ ?_
 ·intro hk
  apply L2_step
  rw [if_neg (by omega),wrap_succ (by omega)]
  exact h hk
 ·intro k hk ih hj
  apply L2_step
  rw [if_pos (by omega)]
  have mi:=List.getElem_mem hi
  have mk:=List.getElem_mem (l:=t.Rows) (n:=k) (by omega)
  have sv:∀ v∈(t.Rows[i]).Values,v.Str.toList.length<Big:=fun v hv=>by have:=valid_str (ht.val mi v hv);unfold Big;omega
  have la:=ht.len mi
  have lb:=ht.len mk
  have next:OkP t l r i k→L3 t fd i k φ:=fun ho=>by
   apply L3_step
   rw [wrap_succ (by omega)]
   refine ih fun j hjk=>?_
   by_cases hjj:j=k
   ·subst hjj;exact ho
   ·exact hj j (by omega)
  refine ⟨t.Rows[i],lget_of (List.getElem?_eq_getElem hi),t.Rows[k],lget_of (List.getElem?_eq_getElem (by omega)),_,by rw [el];exact drossref03_Agree.spec hl (by omega) (by omega) sv,?_⟩
  split
  ·rename_i h1
   refine ⟨_,by rw [er];exact drossref03_Agree.spec hr (by omega) (by omega) sv,?_⟩
   split
   ·rename_i h2
    exact next fun _=>(agr hi (by omega)).1 h2
   ·rename_i h2
    refine hf fun hs=>h2 ?_
    exact (agr hi (by omega)).2 (hs i k hi hk ((agr hi (by omega)).1 h1))
  ·rename_i h1
   exact next fun hh=>absurd ((agr hi (by omega)).2 hh) h1
theorem spec {t:api_Table} {fd:api_FD} {l r:Nat} (ht:TV t) (el:fd.Lhs=l) (er:fd.Rhs=r) (hl:l<2^32) (hr:r<2^32):∃ b,C t fd b∧(b=true↔SatP t l r):=by
 obtain ⟨b,h1,h2⟩:=enter t fd (fun b=>(b=true↔SatP t l r)) (by
  have nr:=ht.nr
  have hf:¬ SatP t l r→(false=true↔SatP t l r):=fun h=>by simp [h]
  have loop:∀ i,i≤t.Rows.length→((∀ a,a<i→∀ k,k<a→OkP t l r a k)→L1 t fd i fun b=>(b=true↔SatP t l r)):=by
   refine down ?_ ?_
   ·intro h
    apply L1_step
    rw [if_neg (by omega)]
    simp only [true_iff]
    exact fun i k hi hk=>h i hi k hk
   ·intro i hi ih hh
    apply L1_step
    rw [if_pos (by omega)]
    refine inner ht el er hl hr hi hf (fun hk=>ih fun a ha k hka=>?_) 0 (Nat.zero_le _) (fun j hj=>by omega)
    by_cases hai:a=i
    ·subst hai;exact hk k hka
    ·exact hh a (by omega) k hka
  exact loop 0 (Nat.zero_le _) (fun a ha=>by omega))
 exact ⟨b,h2,h1⟩
end drossref08_Satisfies
end Go.Own
