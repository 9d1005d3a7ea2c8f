/- What the functions that the law reaches answer. No conditions. -/
import Derived.Test.YtbemcminbfhakaaDoorRefuteTwoLaw3
import Derived.Test.YtbemcminbfhakaaDoorRefuteTwoLaw5
import Derived.Test.YtbemcminbfhakaaDoorRefuteTwoLaw9
import Derived.Test.YtbemcminbfhakaaDoorBase1
import Derived.Test.YtbemcminbfhakaaDoorOwn25
import Derived.Test.YtbemcminbfhakaaDoorRefuteTwoLaw1
set_option linter.all false
namespace Go.Own
end Go.Own
namespace Go.Own
namespace drossref02_Full
theorem loop {k:Nat} {φ:Int→Prop} (h:φ (fullN k)):∀ (m i:Nat),i+m=min k 32→L1 k ((2^i-1:Nat):Int) i φ
 | 0,i,hi=>by
  apply L1_step
  have e:((2^i-1:Nat):Int)=(fullN k:Int):=by unfold fullN;rw [← hi,Nat.add_zero]
  rw [e]
  split
  ·rw [if_neg (by omega)];exact h
  ·exact h
 | m+1,i,hi=>by
  apply L1_step
  rw [if_pos (by omega),if_pos (by omega)]
  refine ⟨by omega,?_⟩
  have hp:2^(i+1)≤2^32:=Nat.pow_le_pow_right (by decide) (by omega)
  have h2:0<2^i:=Nat.pos_of_ne_zero (by simp)
  rw [Nat.pow_succ] at hp
  rw [shl1_nat (k:=.u32) (by simp only [top];omega),bOr_nat (k:=.u32) (by simp only [top];omega) (by simp only [top];omega),wrap_succ (by omega)]
  have e:(2^i-1) ||| 2^i=2^(i+1)-1:=by
   apply Nat.eq_of_testBit_eq
   intro j
   rw [Nat.testBit_or,Nat.testBit_two_pow_sub_one,Nat.testBit_two_pow,Nat.testBit_two_pow_sub_one]
   by_cases h1:j<i
   ·have:j<i+1:=by omega
    simp [h1,this]
   ·by_cases h3:i=j
    ·subst h3;simp
    ·have:¬ j<i+1:=by omega
     simp [h1,h3,this]
  rw [e]
  exact loop h m (i+1) (by omega)
theorem spec {k:Nat}:C k (fullN k):=by
 obtain ⟨r,h1,h2⟩:=enter k (fun r=>r=(fullN k:Int)) (loop (φ:=fun r=>r=(fullN k:Int)) rfl (min k 32) 0 (by omega))
 rw [← h1];exact h2
end drossref02_Full
end Go.Own
namespace Go.Own
def FdOK (l:List api_FD):Prop:=∀ d∈l,U32 d.Lhs∧U32 d.Rhs
def inU (n:Nat) (l r:Int):Bool:=decide (sN l<2^n)&&decide (sN r<2^n)
theorem in_or {n:Nat} {l r:Int} (hl:U32 l) (hr:U32 r):(shrw .u32 (bOr .u32 l r) (n:Int)=0)↔inU n l r=true:=by
 rw [hl.eq,hr.eq,bOr_nat hl.top hr.top,shrw_nat (Nat.or_lt_two_pow hl.top hr.top)]
 unfold inU
 rw [Bool.and_eq_true,decide_eq_true_iff,decide_eq_true_iff]
 have e1:sN (sN l:Int)=sN l:=by unfold sN;omega
 have e2:sN (sN r:Int)=sN r:=by unfold sN;omega
 rw [e1,e2,← or_lt,← div_zero]
 omega
def fdsE (n:Int) (l:List api_FD):Int:=if n<0∨16<n then 7 else if 64<l.length then 3 else if (l.all fun d=>inU n.toNat d.Lhs d.Rhs)=true then 0 else 1
theorem all_goal {α:Type} {l:List α} {p:α→Bool} {L:Int→Prop} {φ:Int→Prop} (stop:φ 0→L (l.length:Int))
  (step:∀ (k:Nat) a,l[k]? = some a→k<l.length→(if p a=true then L ((k+1:Nat):Int) else φ 1)→L k) (h:φ (if l.all p=true then 0 else 1)):L 0:=
 all_loop (l:=l) (p:=p) (L:=L) (φ:=fun b=>φ (if b=true then 0 else 1)) (fun h=>stop (by simpa using h)) (fun k a ha hk h=>step k a ha hk (by simpa using h)) h
theorem closure_Valid.spec {n:Int} {l:List api_FD} (hl:FdOK l):closure_Valid.C n l (fdsE n l):=by
 obtain ⟨r,h1,h2⟩:=closure_Valid.enter n l (fun r=>r=fdsE n l) (by
  by_cases a:n<0∨16<n
  ·have e:fdsE n l=7:=if_pos a
   rw [e]
   by_cases b:n<0
   ·rw [if_pos b]
   ·rw [if_neg b,if_pos (by omega)]
  ·rw [if_neg (by omega),if_neg (by omega)]
   by_cases b:64<l.length
   ·have e:fdsE n l=3:=by unfold fdsE;rw [if_neg a,if_pos b]
    rw [e,if_pos (by omega)]
   ·have e:fdsE n l=if (l.all fun d=>inU n.toNat d.Lhs d.Rhs)=true then 0 else 1:=by unfold fdsE;rw [if_neg a,if_neg b]
    rw [e,if_neg (by omega)]
    ·obtain ⟨m,rfl⟩:∃ m:Nat,n=m:=⟨n.toNat,by omega⟩
     refine all_goal (l:=l) (p:=fun d=>inU m d.Lhs d.Rhs) (L:=fun i=>closure_Valid.L1 m l i _) (φ:=fun r=>r=_) ?_ ?_ rfl
     ·intro h;apply closure_Valid.L1_step;rw [if_neg (by omega)];exact h
     ·intro k d hd hk h
      apply closure_Valid.L1_step
      rw [if_pos (by omega)]
      refine ⟨d,lget_of hd,by omega,?_⟩
      have hd':=hl d (List.mem_of_getElem? hd)
      have e:=in_or (n:=m) hd'.1 hd'.2
      rw [wrap_succ (by omega)]
      split
      ·rename_i hh;rw [if_pos (e.1 hh)] at h;exact h
      ·rename_i hh;rw [if_neg (fun h3=>hh (e.2 h3))] at h;exact h)
 rw [← h1];exact h2
theorem fdsE_n {n:Int} {l:List api_FD} (h:fdsE n l=0):0≤n∧n≤16:=by
 unfold fdsE at h
 split at h
 ·cases h
 ·omega
end Go.Own
namespace Go.Own
def passN:List api_FD→Nat→Nat
 | [],s=>s
 | d::l,s=>passN l (if sN d.Lhs &&& s=sN d.Lhs then s ||| sN d.Rhs else s)
def passK (l:List api_FD):Nat→Nat→Nat
 | 0,s=>s
 | k+1,s=>passK l k (passN l s)
def cloN (l:List api_FD) (s:Nat):Nat:=passK l 33 s
def subN (a b:Nat):Prop:=∀ i,a.testBit i=true→b.testBit i=true
theorem subN_refl (a:Nat):subN a a:=fun _ h=>h
theorem subN_trans {a b c:Nat} (h:subN a b) (k:subN b c):subN a c:=fun i hi=>k i (h i hi)
theorem subN_or {a b:Nat}:subN a (a ||| b):=fun i hi=>by rw [Nat.testBit_or,hi];rfl
theorem subN_anti {a b:Nat} (h:subN a b) (k:subN b a):a=b:=Nat.eq_of_testBit_eq fun i=>by
 cases ha:a.testBit i with
 | true=>exact (h i ha).symm
 | false=>
  cases hb:b.testBit i with
  | true=>rw [k i hb] at ha;cases ha
  | false=>rfl
theorem passN_up:∀ {l:List api_FD} {s:Nat},subN s (passN l s)
 | [],s=>subN_refl s
 | d::l,s=>by
  rw [passN]
  split
  ·exact subN_trans subN_or passN_up
  ·exact passN_up
theorem passN_lt:∀ {l:List api_FD} {s n:Nat},s<2^n→(∀ d∈l,sN d.Rhs<2^n)→passN l s<2^n
 | [],_,_,h,_=>h
 | d::l,s,n,h,hl=>by
  rw [passN]
  refine passN_lt ?_ fun x hx=>hl x (by simp [hx])
  split
  ·exact Nat.or_lt_two_pow h (hl d (by simp))
  ·exact h
def IsClo (l:List api_FD) (s:Nat):Prop:=∀ d∈l,subN (sN d.Lhs) s→subN (sN d.Rhs) s
theorem passN_min:∀ {l:List api_FD} {s c:Nat},subN s c→IsClo l c→subN (passN l s) c
 | [],_,_,h,_=>h
 | d::l,s,c,h,hc=>by
  rw [passN]
  have hc':IsClo l c:=fun x hx=>hc x (by simp [hx])
  split
  ·rename_i hs
   refine passN_min (fun i hi=>?_) hc'
   rw [Nat.testBit_or,Bool.or_eq_true] at hi
   rcases hi with hi | hi
   ·exact h i hi
   ·exact hc d (by simp) (subN_trans (sub_iff.1 hs) h) i hi
  ·exact passN_min h hc'
theorem passN_fix:∀ {l:List api_FD} {s:Nat},passN l s=s→IsClo l s
 | [],_,_=>fun d hd=>by cases hd
 | d::l,s,h=>by
  rw [passN] at h
  have h1:(if sN d.Lhs &&& s=sN d.Lhs then s ||| sN d.Rhs else s)=s:=by
   refine subN_anti ?_ ?_
   ·have:=passN_up (l:=l) (s:=if sN d.Lhs &&& s=sN d.Lhs then s ||| sN d.Rhs else s)
    rw [h] at this;exact this
   ·split
    ·exact subN_or
    ·exact subN_refl s
  rw [h1] at h
  intro x hx hs
  rcases List.mem_cons.1 hx with rfl | hx
  ·rw [if_pos (sub_iff.2 hs)] at h1
   intro i hi
   rw [← h1,Nat.testBit_or,hi,Bool.or_true]
  ·exact passN_fix h x hx hs
theorem passK_fix {l:List api_FD} {s:Nat} (h:passN l s=s):∀ k,passK l k s=s
 | 0=>rfl
 | k+1=>by rw [passK,h];exact passK_fix h k
theorem szN_lt {a b:Nat} (hs:subN a b) (hne:a≠b) (hb:b<2^32):szN a<szN b:=by
 have hex:∃ i,b.testBit i=true∧a.testBit i=false:=by
  false_or_by_contra
  rename_i h
  refine hne (subN_anti hs fun i hi=>?_)
  cases ha:a.testBit i with
  | true=>rfl
  | false=>exact absurd ⟨i,hi,ha⟩ h
 obtain ⟨i,h1,h2⟩:=hex
 have hmem:i∈bitsOf b:=(bitsOf_mem hb).2 h1
 have ha:a<2^32:=by
  refine lt_iff.2 fun j hj=>?_
  exact lt_iff.1 hb j (hs j hj)
 have hsub:(bitsOf a).length+1≤(bitsOf b).length:=by
  have hnd:(i::bitsOf a).Nodup:=by
   rw [List.nodup_cons]
   refine ⟨fun h=>?_,(bitsOf_sorted (n:=a)).imp fun h=>by omega⟩
   rw [bitsOf_mem ha,h2] at h;cases h
  have:(i::bitsOf a) ⊆ bitsOf b:=by
   intro x hx
   rcases List.mem_cons.1 hx with rfl | hx
   ·exact hmem
   ·exact (bitsOf_mem hb).2 (hs x ((bitsOf_mem ha).1 hx))
  exact hnd.length_le_of_subset this
 exact hsub
theorem passK_done {l:List api_FD} (hl:∀ d∈l,sN d.Rhs<2^32):∀ {k s:Nat},s<2^32→33≤k+szN s→passN l (passK l k s)=passK l k s
 | 0,s,hs,hk=>by have:=bitsOf_len (n:=s);unfold szN at hk;omega
 | k+1,s,hs,hk=>by
  rw [passK]
  by_cases h:passN l s=s
  ·rw [h,passK_fix h,h]
  ·have:=szN_lt (passN_up (l:=l)) (Ne.symm h) (passN_lt hs hl)
   exact passK_done hl (passN_lt hs hl) (by omega)
theorem passK_up {l:List api_FD}:∀ {k s:Nat},subN s (passK l k s)
 | 0,s=>subN_refl s
 | k+1,s=>subN_trans passN_up passK_up
theorem passK_min {l:List api_FD} {c:Nat} (hc:IsClo l c):∀ {k s:Nat},subN s c→subN (passK l k s) c
 | 0,_,h=>h
 | k+1,_,h=>passK_min hc (k:=k) (passN_min h hc)
theorem passK_lt {l:List api_FD} {n:Nat} (hl:∀ d∈l,sN d.Rhs<2^n):∀ {k s:Nat},s<2^n→passK l k s<2^n
 | 0,_,h=>h
 | k+1,_,h=>passK_lt hl (k:=k) (passN_lt h hl)
theorem cloN_up {l:List api_FD} {s:Nat}:subN s (cloN l s):=passK_up
theorem cloN_min {l:List api_FD} {s c:Nat} (h:subN s c) (hc:IsClo l c):subN (cloN l s) c:=passK_min hc h
theorem cloN_clo {l:List api_FD} {s:Nat} (hl:∀ d∈l,sN d.Rhs<2^32) (hs:s<2^32):IsClo l (cloN l s):=passN_fix (passK_done hl hs (by omega))
theorem cloN_lt {l:List api_FD} {n s:Nat} (hl:∀ d∈l,sN d.Rhs<2^n) (hs:s<2^n):cloN l s<2^n:=passK_lt hl hs
end Go.Own
namespace Go.Own
namespace drossref02_Has
theorem spec {n i:Nat} (hn:n<2^32):C n i (n.testBit i):=by
 obtain ⟨r,h1,h2⟩:=enter n i (fun r=>r=n.testBit i) (by
  rw [if_pos (by omega)]
  split
  ·refine ⟨by omega,?_⟩
   rw [bit_nat (k:=.u32) (by simpa [top] using hn) (by decide)]
   cases n.testBit i<;>rfl
  ·rw [Nat.testBit_lt_two_pow (Nat.lt_of_lt_of_le hn (Nat.pow_le_pow_right (by decide) (by omega)))])
 rw [← h1];exact h2
end drossref02_Has
end Go.Own
namespace Go.Own
end Go.Own
namespace Go.Own
def letB (x:Int):Bool:=decide (97≤x∧x≤122∨65≤x∧x≤90∨x=95)
def alnB (x:Int):Bool:=letB x || decide (48≤x∧x≤57)
def nullB:List UInt8:=[110,117,108,108]
theorem bl_nil:((⟨#[]⟩:ByteArray)).toList=[]:=bl_mk (l:=[])
def nameL:List UInt8→Bool
 | []=>false
 | b::r=>decide (r.length<24)&&letB (u8i b)&&!decide (b::r=nullB)&&r.all fun b=>alnB (u8i b)
def nameF (s:ByteArray):Bool:=nameL s.toList
namespace drossref03_letter
end drossref03_letter
namespace drossref03_Name
end drossref03_Name
def eqS (x a:ByteArray):Bool:=decide (a=x)
def namesGo:List ByteArray→List ByteArray→Bool
 | _,[]=>true
 | pre,a::r=>nameF a&&!pre.any (eqS a)&&namesGo (pre++[a]) r
def namesF (l:List ByteArray):Bool:=namesGo [] l
namespace drossref03_Attr
end drossref03_Attr
def validV (v:api_Value):Bool:=decide (v.Kind=0∧v.Num=0∧v.Str.toList=[]∨v.Kind=1∧v.Str.toList=[]∨v.Kind=2∧v.Num=0∧v.Str.toList.length≤200∨v.Kind=3∧1≤v.Num∧v.Str.toList=[])
def validsF (l:List api_Value):Bool:=l.all validV
def rowsF (n:Nat):Int→List api_Row→Int
 | _,[]=>0
 | last,r::rs=>if r.ID≤last then 1 else if r.Values.length=n then (if validsF r.Values=true then rowsF n r.ID rs else 1) else 6
namespace drossref03_Valid
end drossref03_Valid
end Go.Own

namespace Go.Own
theorem cmpI_zero {a b:Int}:cmpI a b=0↔a=b:=by
 unfold cmpI;repeat' split
 all_goals omega
theorem drossref01_sign.spec {a b:Int}:drossref01_sign.C a b (cmpI a b):=by
 obtain ⟨r,h1,h2⟩:=drossref01_sign.enter a b (fun r=>r=cmpI a b) (by
  unfold cmpI;repeat' split
  all_goals first | rfl | omega)
 rw [← h1];exact h2
def cmpL:List UInt8→List UInt8→Int
 | [],[]=>0
 | [],_::_=>-1
 | _::_,[]=>1
 | a::r,b::s=>if a=b then cmpL r s else cmpI (u8i a) (u8i b)
theorem cmpL_zero:∀ {a b:List UInt8},cmpL a b=0↔a=b
 | [],[]=>by simp [cmpL]
 | [],_::_=>by simp [cmpL]
 | _::_,[]=>by simp [cmpL]
 | a::r,b::s=>by
  simp only [cmpL]
  split
  ·rename_i h;subst h;rw [cmpL_zero];simp
  ·rename_i h
   rw [cmpI_zero,u8i_inj];simp [h]
def cmpS (a b:ByteArray):Int:=cmpL a.toList b.toList
theorem cmpL_len:∀ {a b:List UInt8},(a=[]∨b=[])→cmpI a.length b.length=cmpL a b
 | [],[],_=>rfl
 | [],_::r,_=>by
  simp only [cmpL,cmpI,List.length_cons,List.length_nil]
  rw [if_pos (by omega)]
 | _::r,[],_=>by
  simp only [cmpL,cmpI,List.length_cons,List.length_nil]
  rw [if_neg (by omega),if_pos (by omega)]
 | _::_,_::_,h=>by simp at h
namespace drossref01_strings
theorem loop {a b:ByteArray} {φ:Int→Prop} (hn:a.toList.length<Big):∀ (r s:List UInt8) (k:Nat),a.toList.drop k=r→b.toList.drop k=s→k≤a.toList.length→k≤b.toList.length→φ (cmpL r s)→L1 a b k φ:=by
 have fin:∀ (r s:List UInt8) (k:Nat),a.toList.drop k=r→b.toList.drop k=s→k≤a.toList.length→k≤b.toList.length→(r=[]∨s=[])→φ (cmpL r s)→L2 a b φ:=by
  intro r s k hr hs hk hk2 h0 h
  apply L2_step
  refine ⟨_,drossref01_sign.spec,?_⟩
  rw [bsize_eq,bsize_eq]
  have e:cmpI a.toList.length b.toList.length=cmpI r.length s.length:=by
   rw [← hr,← hs,List.length_drop,List.length_drop]
   unfold cmpI
   repeat' split
   all_goals omega
  rw [e,cmpL_len h0];exact h
 intro r
 induction r with
 | nil=>
  intro s k hr hs hk hk2 h
  apply L1_step
  have:=drop_ge hr
  rw [bsize_eq,if_neg (by omega)]
  exact fin _ _ k hr hs hk hk2 (.inl rfl) h
 | cons x r ih=>
  intro s k hr hs hk hk2 h
  apply L1_step
  have hlt:=drop_lt hr
  rw [bsize_eq,if_pos (by omega),bsize_eq]
  match s,hs,h with
  | [],hs,h=>
   have:=drop_ge hs
   rw [if_neg (by omega)]
   exact fin _ _ k hr hs hk hk2 (.inr rfl) h
  | y::s,hs,h=>
   have hlt2:=drop_lt hs
   rw [if_pos (by omega)]
   refine ⟨x,bget_of (drop_get hr),y,bget_of (drop_get hs),?_⟩
   simp only [cmpL] at h
   split
   ·rename_i he
    rw [if_pos (u8i_inj.1 he)] at h
    rw [wrap_succ (by unfold Big at hn;omega)]
    exact ih s (k+1) (drop_next hr) (drop_next hs) hlt hlt2 h
   ·rename_i he
    rw [if_neg (fun hh=>he (u8i_inj.2 hh))] at h
    refine ⟨x,bget_of (drop_get hr),y,bget_of (drop_get hs),_,drossref01_sign.spec,?_⟩
    have b1:=u8i_lt (b:=x);have b2:=u8i_lt (b:=y)
    rw [wrap_id (by omega) (by omega),wrap_id (by omega) (by omega)]
    exact h
theorem spec {a b:ByteArray} (hn:a.toList.length<Big):C a b (cmpS a b):=by
 obtain ⟨r,h1,h2⟩:=enter a b (fun r=>r=cmpS a b) (loop hn a.toList b.toList 0 rfl rfl (by omega) (by omega) rfl)
 rw [← h1];exact h2
end drossref01_strings
def cmpV (v w:api_Value):Int:=if cmpI v.Kind w.Kind=0 then (if cmpI v.Num w.Num=0 then cmpS v.Str w.Str else cmpI v.Num w.Num) else cmpI v.Kind w.Kind
theorem cmpV_zero {v w:api_Value}:cmpV v w=0↔v=w:=by
 obtain ⟨k,n,s⟩:=v
 obtain ⟨k',n',s'⟩:=w
 unfold cmpV cmpS
 simp only [api_Value.mk.injEq]
 split
 ·rename_i h1;rw [cmpI_zero] at h1
  split
  ·rename_i h2;rw [cmpI_zero] at h2
   rw [cmpL_zero,bl_inj];simp [h1,h2]
  ·rename_i h2
   have h3:=h2
   rw [cmpI_zero] at h3
   simp [h2,h3]
 ·rename_i h1
  have h3:=h1
  rw [cmpI_zero] at h3
  simp [h1,h3]
theorem drossref01_Compare.spec {v w:api_Value} (hn:v.Str.toList.length<Big):drossref01_Compare.C v w (cmpV v w):=by
 obtain ⟨r,h1,h2⟩:=drossref01_Compare.enter v w (fun r=>r=cmpV v w) (by
  refine ⟨_,drossref01_sign.spec,?_⟩
  unfold cmpV
  split
  ·refine ⟨_,drossref01_sign.spec,?_⟩
   split
   ·exact ⟨_,drossref01_strings.spec hn,rfl⟩
   ·rfl
  ·rfl)
 rw [← h1];exact h2
def StrOK (l:List api_Value):Prop:=l.length<Big∧∀ v∈l,v.Str.toList.length<Big
def cmpVs:List api_Value→List api_Value→Int
 | [],[]=>0
 | [],_::_=>-1
 | _::_,[]=>1
 | a::r,b::s=>if cmpV a b=0 then cmpVs r s else cmpV a b
theorem cmpVs_zero:∀ {a b:List api_Value},cmpVs a b=0↔a=b
 | [],[]=>by simp [cmpVs]
 | [],_::_=>by simp [cmpVs]
 | _::_,[]=>by simp [cmpVs]
 | a::r,b::s=>by
  simp only [cmpVs]
  split
  ·rename_i h;rw [cmpVs_zero];rw [cmpV_zero] at h;simp [h]
  ·rename_i h
   have h2:=h
   rw [cmpV_zero] at h2
   simp [h,h2]
theorem cmpVs_len:∀ {a b:List api_Value},(a=[]∨b=[])→cmpI a.length b.length=cmpVs a b
 | [],[],_=>rfl
 | [],_::r,_=>by
  simp only [cmpVs,cmpI,List.length_cons,List.length_nil]
  rw [if_pos (by omega)]
 | _::r,[],_=>by
  simp only [cmpVs,cmpI,List.length_cons,List.length_nil]
  rw [if_neg (by omega),if_pos (by omega)]
 | _::_,_::_,h=>by simp at h
namespace drossref01_Lists
theorem loop {a b:List api_Value} {φ:Int→Prop} (hn:StrOK a):∀ (r s:List api_Value) (k:Nat),a.drop k=r→b.drop k=s→k≤a.length→k≤b.length→φ (cmpVs r s)→L1 a b k φ:=by
 have fin:∀ (r s:List api_Value) (k:Nat),a.drop k=r→b.drop k=s→k≤a.length→k≤b.length→(r=[]∨s=[])→φ (cmpVs r s)→L2 a b φ:=by
  intro r s k hr hs hk hk2 h0 h
  apply L2_step
  refine ⟨_,drossref01_sign.spec,?_⟩
  have e:cmpI a.length b.length=cmpI r.length s.length:=by
   rw [← hr,← hs,List.length_drop,List.length_drop]
   unfold cmpI
   repeat' split
   all_goals omega
  rw [e,cmpVs_len h0];exact h
 intro r
 induction r with
 | nil=>
  intro s k hr hs hk hk2 h
  apply L1_step
  have:=drop_ge hr
  rw [if_neg (by omega)]
  exact fin _ _ k hr hs hk hk2 (.inl rfl) h
 | cons x r ih=>
  intro s k hr hs hk hk2 h
  apply L1_step
  have hlt:=drop_lt hr
  rw [if_pos (by omega)]
  match s,hs,h with
  | [],hs,h=>
   have:=drop_ge hs
   rw [if_neg (by omega)]
   exact fin _ _ k hr hs hk hk2 (.inr rfl) h
  | y::s,hs,h=>
   have hlt2:=drop_lt hs
   rw [if_pos (by omega)]
   refine ⟨x,lget_drop hr,y,lget_drop hs,_,drossref01_Compare.spec (hn.2 x (List.mem_of_getElem? (drop_get hr))),?_⟩
   simp only [cmpVs] at h
   split
   ·rename_i he
    rw [if_pos he] at h
    rw [wrap_succ (by have:=hn.1;unfold Big at this;omega)]
    exact ih s (k+1) (drop_next hr) (drop_next hs) hlt hlt2 h
   ·rename_i he
    rw [if_neg he] at h
    exact h
theorem spec {a b:List api_Value} (hn:StrOK a):C a b (cmpVs a b):=by
 obtain ⟨r,h1,h2⟩:=enter a b (fun r=>r=cmpVs a b) (loop hn a b 0 rfl rfl (by omega) (by omega) rfl)
 rw [← h1];exact h2
end drossref01_Lists
theorem drossref01_Same.spec {a b:List api_Value} (hn:StrOK a):drossref01_Same.C a b (decide (a=b)):=by
 obtain ⟨r,h1,h2⟩:=drossref01_Same.enter a b (fun r=>r=decide (a=b)) ⟨_,drossref01_Lists.spec hn,by
  by_cases h:a=b
  ·simp [h,cmpVs_zero.2 rfl]
  ·have:cmpVs a b≠0:=fun hh=>h (cmpVs_zero.1 hh)
   simp [h,this]⟩
 rw [← h1];exact h2
def NumOK (v:api_Value):Prop:=-9223372036854775808≤v.Num∧v.Num<9223372036854775808
theorem validV_cases {v:api_Value} (h:validV v=true):v.Kind=0∧v.Num=0∧v.Str.toList=[]∨v.Kind=1∧v.Str.toList=[]∨v.Kind=2∧v.Num=0∧v.Str.toList.length≤200∨v.Kind=3∧1≤v.Num∧v.Str.toList=[]:=by
 simpa [validV] using h
def b8 (x:Int):UInt8:=UInt8.ofNat x.toNat
end Go.Own
namespace Go.Own
def pick (l:List api_Value) (n:Nat):List api_Value:=(bitsOf n).filterMap fun i=>l[i]?
theorem fm_congr {α β:Type} {f g:α→Option β}:∀ {l:List α},(∀ a∈l,f a=g a)→l.filterMap f=l.filterMap g
 | [],_=>rfl
 | a::l,h=>by
  have ih:=fm_congr (l:=l) fun b hb=>h b (by simp [hb])
  simp only [List.filterMap_cons,h a (by simp),ih]
theorem bits_upto {n k:Nat} (hn:n<2^32):(bitsOf n).filter (fun i=>decide (i<k+1))=(bitsOf n).filter (fun i=>decide (i<k))++if n.testBit k=true then [k] else []:=by
 refine sorted_ext (bitsOf_sorted.filter _) ?_ fun x=>?_
 ·rw [List.pairwise_append]
  refine ⟨bitsOf_sorted.filter _,by split<;>simp,fun a ha b hb=>?_⟩
  have ha:=(List.mem_filter.1 ha).2
  split at hb
  ·simp at hb ha;omega
  ·simp at hb
 ·simp only [List.mem_filter,List.mem_append,decide_eq_true_eq]
  split
  ·rename_i h
   rw [List.mem_singleton]
   constructor
   ·rintro ⟨h1,h2⟩
    by_cases hx:x<k
    ·exact .inl ⟨h1,hx⟩
    ·exact .inr (by omega)
   ·rintro (⟨h1,h2⟩ | rfl)
    ·exact ⟨h1,by omega⟩
    ·exact ⟨(bitsOf_mem hn).2 h,by omega⟩
  ·rename_i h
   constructor
   ·rintro ⟨h1,h2⟩
    have:x≠k:=fun e=>h (e ▸ (bitsOf_mem hn).1 h1)
    exact .inl ⟨h1,by omega⟩
   ·rintro (⟨h1,h2⟩ | h1)
    ·exact ⟨h1,by omega⟩
    ·simp at h1
namespace drossref03_Values
theorem spec {r:api_Row} {n:Nat} (hn:n<2^32) (hr:r.Values.length≤1000):C r n (pick r.Values n):=by
 obtain ⟨q,h1,h2⟩:=enter r n (fun q=>q=pick r.Values n) (by
  have loop:∀ k,k≤r.Values.length→L1 r n (((bitsOf n).filter fun i=>decide (i<k)).filterMap fun i=>r.Values[i]?) k fun q=>q=pick r.Values n:=by
   refine down ?_ ?_
   ·apply L1_step
    rw [if_neg (by omega)]
    unfold pick
    rw [List.filterMap_filter]
    refine fm_congr fun i hi=>?_
    by_cases h:i<r.Values.length
    ·simp [h]
    ·simp [h]
   ·intro k hk h
    apply L1_step
    rw [if_pos (by omega)]
    have hget:=List.getElem?_eq_getElem hk
    have hlen:(((bitsOf n).filter fun i=>decide (i<k)).filterMap fun i=>r.Values[i]?).length≤32:=
     Nat.le_trans (List.length_filterMap_le _ _) (Nat.le_trans (List.length_filter_le _ _) bitsOf_len)
    rw [bits_upto hn,List.filterMap_append] at h
    refine ⟨_,drossref02_Has.spec hn,?_⟩
    have next:∀ l,l=(((bitsOf n).filter fun i=>decide (i<k)).filterMap fun i=>r.Values[i]?)++((if n.testBit k=true then [k] else []).filterMap fun i=>r.Values[i]?)→L2 r n l k fun q=>q=pick r.Values n:=by
     rintro _ rfl
     apply L2_step
     rw [wrap_succ (by omega)]
     exact h
    split
    ·rename_i hb
     exact ⟨r.Values[k],lget_of hget,by omega,next _ (by simp [hb,hget])⟩
    ·rename_i hb
     exact next _ (by simp [hb])
  have:=loop 0 (Nat.zero_le _)
  have e:(bitsOf n).filter (fun i=>decide (i<0))=[]:=by rw [List.filter_eq_nil_iff];simp
  rw [e] at this
  exact this)
 rw [← h1];exact h2
end drossref03_Values
def agreeF (a b:List api_Value) (n:Nat):Bool:=decide (pick a n=pick b n)
theorem fm_eq {a b:List api_Value} (hl:a.length=b.length):∀ {l:List Nat},(l.filterMap fun i=>a[i]?)=(l.filterMap fun i=>b[i]?)↔∀ i∈l,a[i]? = b[i]?
 | []=>by simp
 | k::l=>by
  have ih:=fm_eq (a:=a) (b:=b) hl (l:=l)
  by_cases h:k<a.length
  ·have e1:=List.getElem?_eq_getElem h
   have e2:=List.getElem?_eq_getElem (l:=b) (i:=k) (by omega)
   simp only [List.filterMap_cons,e1,e2,List.cons.injEq,ih,List.forall_mem_cons,Option.some.injEq]
  ·have e1:a[k]? = none:=List.getElem?_eq_none (by omega)
   have e2:b[k]? = none:=List.getElem?_eq_none (by omega)
   simp only [List.filterMap_cons,e1,e2,ih,List.forall_mem_cons,true_and]
theorem agree_iff {a b:List api_Value} {n:Nat} (hn:n<2^32) (hl:a.length=b.length):agreeF a b n=true↔∀ i,n.testBit i=true→a[i]? = b[i]?:=by
 unfold agreeF pick
 rw [decide_eq_true_iff,fm_eq hl]
 constructor
 ·exact fun h i hi=>h i ((bitsOf_mem hn).2 hi)
 ·exact fun h i hi=>h i ((bitsOf_mem hn).1 hi)
theorem pick_sub {l:List api_Value} {n:Nat}:∀ v∈pick l n,v∈l:=by
 intro v hv
 obtain ⟨i,_,hi⟩:=List.mem_filterMap.1 hv
 exact List.mem_of_getElem? hi
theorem pick_len {l:List api_Value} {n:Nat}:(pick l n).length≤32:=Nat.le_trans (List.length_filterMap_le _ _) bitsOf_len
theorem drossref03_Agree.spec {a b:api_Row} {n:Nat} (hn:n<2^32) (ha:a.Values.length≤1000) (hb:b.Values.length≤1000) (hs:∀ v∈a.Values,v.Str.toList.length<Big):drossref03_Agree.C a b n (agreeF a.Values b.Values n):=by
 obtain ⟨q,h1,h2⟩:=drossref03_Agree.enter a b n (fun q=>q=agreeF a.Values b.Values n)
  ⟨_,drossref03_Values.spec hn ha,_,drossref03_Values.spec hn hb,_,drossref01_Same.spec ⟨by have:=pick_len (l:=a.Values) (n:=n);unfold Big;omega,fun v hv=>hs v (pick_sub v hv)⟩,rfl⟩
 rw [← h1];exact h2
structure TV (t:api_Table):Prop where
 name:nameF t.Name=true
 na:t.Attrs.length≤16
 nr:t.Rows.length≤1000
 names:namesF t.Attrs=true
 rows:rowsF t.Attrs.length 0 t.Rows=0
theorem rowsF_row {n:Nat}:∀ {l:List api_Row} {last:Int},rowsF n last l=0→∀ r∈l,r.Values.length=n∧(∀ v∈r.Values,validV v=true)∧last<r.ID
 | [],_,_,r,hr=>by cases hr
 | a::l,last,h,r,hr=>by
  simp only [rowsF] at h
  split at h
  ·cases h
  ·split at h
   ·split at h
    ·rename_i h1 h2 h3
     unfold validsF at h3
     rw [List.all_eq_true] at h3
     rcases List.mem_cons.1 hr with rfl | hr
     ·exact ⟨h2,h3,by omega⟩
     ·obtain ⟨e1,e2,e3⟩:=rowsF_row h r hr
      exact ⟨e1,e2,by omega⟩
    ·cases h
   ·cases h
theorem TV.len {t:api_Table} (h:TV t) {r:api_Row} (hr:r∈t.Rows):r.Values.length=t.Attrs.length:=(rowsF_row h.rows r hr).1
theorem TV.val {t:api_Table} (h:TV t) {r:api_Row} (hr:r∈t.Rows):∀ v∈r.Values,validV v=true:=(rowsF_row h.rows r hr).2.1
theorem valid_str {v:api_Value} (h:validV v=true):v.Str.toList.length≤200:=by
 rcases validV_cases h with h | h | h | h
 ·rw [h.2.2];simp
 ·rw [h.2];simp
 ·exact h.2.2
 ·rw [h.2.2];simp
end Go.Own
namespace Go.Own
def picks (t:api_Table) (n:Nat):List (List api_Value):=t.Rows.map fun r=>pick r.Values n
theorem pick_iff {t:api_Table} (ht:TV t) {n i j:Nat} (hn:n<2^32) (hi:i<t.Rows.length) (hj:j<t.Rows.length):(picks t n)[i]? = (picks t n)[j]?↔∀ k,n.testBit k=true→(t.Rows[i]'hi).Values[k]? = (t.Rows[j]'hj).Values[k]?:=by
 unfold picks
 rw [List.getElem?_map,List.getElem?_map,List.getElem?_eq_getElem hi,List.getElem?_eq_getElem hj]
 simp only [Option.map_some,Option.some.injEq]
 rw [← agree_iff hn (by rw [ht.len (List.getElem_mem hi),ht.len (List.getElem_mem hj)])]
 unfold agreeF
 rw [decide_eq_true_iff]
def OkP (t:api_Table) (l r i k:Nat):Prop:=(picks t l)[i]? = (picks t l)[k]?→(picks t r)[i]? = (picks t r)[k]?
def SatP (t:api_Table) (l r:Nat):Prop:=∀ i k,i<t.Rows.length→k<i→OkP t l r i k
theorem agr {t:api_Table} {n i k:Nat} (hi:i<t.Rows.length) (hk:k<t.Rows.length):agreeF (t.Rows[i]).Values (t.Rows[k]).Values n=true↔(picks t n)[i]? = (picks t n)[k]?:=by
 unfold picks agreeF
 rw [List.getElem?_map,List.getElem?_map,List.getElem?_eq_getElem hi,List.getElem?_eq_getElem hk]
 simp
def EqA (t:api_Table) (i k a:Nat):Prop:=(t.Rows[i]?.map fun r=>r.Values[a]?)=(t.Rows[k]?.map fun r=>r.Values[a]?)
instance (t:api_Table) (i k a:Nat):Decidable (EqA t i k a):=by unfold EqA;infer_instance
theorem pick_eqA {t:api_Table} (ht:TV t) {n i j:Nat} (hn:n<2^32) (hi:i<t.Rows.length) (hj:j<t.Rows.length):(picks t n)[i]? = (picks t n)[j]?↔∀ k,n.testBit k=true→EqA t i j k:=by
 rw [pick_iff ht hn hi hj]
 unfold EqA
 rw [List.getElem?_eq_getElem hi,List.getElem?_eq_getElem hj]
 simp only [Option.map_some,Option.some.injEq]
theorem sat_iff {t:api_Table} (ht:TV t) {l r:Nat} (hl:l<2^32) (hr:r<2^32):SatP t l r↔∀ i k,i<t.Rows.length→k<i→(∀ a,l.testBit a=true→EqA t i k a)→∀ a,r.testBit a=true→EqA t i k a:=by
 unfold SatP OkP
 constructor
 ·intro h i k hi hk
  have:=h i k hi hk
  rw [pick_eqA ht hl hi (by omega),pick_eqA ht hr hi (by omega)] at this
  exact this
 ·intro h i k hi hk
  rw [pick_eqA ht hl hi (by omega),pick_eqA ht hr hi (by omega)]
  exact h i k hi hk
end Go.Own
namespace Go.Own
end Go.Own
namespace Go.Own
end Go.Own
namespace Go.Own
end Go.Own
namespace Go.Own
namespace drossref08_Satisfies
theorem inner {t:api_Table} {fd:api_FD} {l r:Nat} {φ:Bool→Prop} {i:Nat} (ht:TV t) (el:fd.Lhs=l) (er:fd.Rhs=r) (hl:l<2^32) (hr:r<2^32) (hi:i<t.Rows.length) (hf:¬ SatP t l r→φ false)
  (h:(∀ k,k<i→OkP t l r i k)→L1 t fd ((i+1:Nat):Int) φ):∀ k,k≤i→((∀ j,j<k→OkP t l r i j)→L2 t fd i k φ):=by
 have nr:=ht.nr
 have na:=ht.na
 refine down ?_ ?_
 ·intro hk
  apply L2_step
  rw [if_neg (by omega),wrap_succ (by omega)]
  exact h hk
 ·intro k hk ih hj
  apply L2_step
  rw [if_pos (by omega)]
  have mi:=List.getElem_mem hi
  have mk:=List.getElem_mem (l:=t.Rows) (n:=k) (by omega)
  have sv:∀ v∈(t.Rows[i]).Values,v.Str.toList.length<Big:=fun v hv=>by have:=valid_str (ht.val mi v hv);unfold Big;omega
  have la:=ht.len mi
  have lb:=ht.len mk
  have next:OkP t l r i k→L3 t fd i k φ:=fun ho=>by
   apply L3_step
   rw [wrap_succ (by omega)]
   refine ih fun j hjk=>?_
   by_cases hjj:j=k
   ·subst hjj;exact ho
   ·exact hj j (by omega)
  refine ⟨t.Rows[i],lget_of (List.getElem?_eq_getElem hi),t.Rows[k],lget_of (List.getElem?_eq_getElem (by omega)),_,by rw [el];exact drossref03_Agree.spec hl (by omega) (by omega) sv,?_⟩
  split
  ·rename_i h1
   refine ⟨_,by rw [er];exact drossref03_Agree.spec hr (by omega) (by omega) sv,?_⟩
   split
   ·rename_i h2
    exact next fun _=>(agr hi (by omega)).1 h2
   ·rename_i h2
    refine hf fun hs=>h2 ?_
    exact (agr hi (by omega)).2 (hs i k hi hk ((agr hi (by omega)).1 h1))
  ·rename_i h1
   exact next fun hh=>absurd ((agr hi (by omega)).2 hh) h1
theorem spec {t:api_Table} {fd:api_FD} {l r:Nat} (ht:TV t) (el:fd.Lhs=l) (er:fd.Rhs=r) (hl:l<2^32) (hr:r<2^32):∃ b,C t fd b∧(b=true↔SatP t l r):=by
 obtain ⟨b,h1,h2⟩:=enter t fd (fun b=>(b=true↔SatP t l r)) (by
  have nr:=ht.nr
  have hf:¬ SatP t l r→(false=true↔SatP t l r):=fun h=>by simp [h]
  have loop:∀ i,i≤t.Rows.length→((∀ a,a<i→∀ k,k<a→OkP t l r a k)→L1 t fd i fun b=>(b=true↔SatP t l r)):=by
   refine down ?_ ?_
   ·intro h
    apply L1_step
    rw [if_neg (by omega)]
    simp only [true_iff]
    exact fun i k hi hk=>h i hi k hk
   ·intro i hi ih hh
    apply L1_step
    rw [if_pos (by omega)]
    refine inner ht el er hl hr hi hf (fun hk=>ih fun a ha k hka=>?_) 0 (Nat.zero_le _) (fun j hj=>by omega)
    by_cases hai:a=i
    ·subst hai;exact hk k hka
    ·exact hh a (by omega) k hka
  exact loop 0 (Nat.zero_le _) (fun a ha=>by omega))
 exact ⟨b,h2,h1⟩
end drossref08_Satisfies
end Go.Own
namespace Go.Own
def ofV (c:Nat):api_Value:=
 match c % 12 with
 | 0=>⟨1,0,⟨#[]⟩⟩
 | 1=>⟨1,1,⟨#[]⟩⟩
 | 2=>⟨1,2,⟨#[]⟩⟩
 | 3=>⟨0,0,⟨#[]⟩⟩
 | 4=>⟨2,0,⟨#[97]⟩⟩
 | 5=>⟨2,0,⟨#[98]⟩⟩
 | 6=>⟨2,0,⟨#[]⟩⟩
 | 7=>⟨3,1,⟨#[]⟩⟩
 | 8=>⟨1,-1,⟨#[]⟩⟩
 | 9=>⟨2,0,⟨#[97,98]⟩⟩
 | 10=>⟨3,2,⟨#[]⟩⟩
 | _=>⟨1,7,⟨#[]⟩⟩
theorem ofV_ok (c:Nat):validV (ofV c)=true∧NumOK (ofV c):=by
 have e1:((⟨#[97]⟩:ByteArray)).toList=[97]:=bl_mk (l:=[97])
 have e2:((⟨#[98]⟩:ByteArray)).toList=[98]:=bl_mk (l:=[98])
 have e3:((⟨#[97,98]⟩:ByteArray)).toList=[97,98]:=bl_mk (l:=[97,98])
 unfold ofV NumOK validV
 split<;>simp [bl_nil,e1,e2,e3]
namespace drossref01_Of
theorem spec (c:Nat):C c (ofV c):=by
 obtain ⟨r,h1,h2⟩:=enter c (fun r=>r=ofV c) (by
  have e:Int.tmod (c:Int) 12=((c % 12:Nat):Int):=rfl
  rw [e]
  unfold ofV
  have hc:c % 12<12:=Nat.mod_lt _ (by decide)
  generalize c % 12=m at hc
  match m,hc with
  | 0,_=>rfl
  | 1,_=>rfl
  | 2,_=>rfl
  | 3,_=>rfl
  | 4,_=>rfl
  | 5,_=>rfl
  | 6,_=>rfl
  | 7,_=>rfl
  | 8,_=>rfl
  | 9,_=>rfl
  | 10,_=>rfl
  | 11,_=>rfl)
 rw [← h1];exact h2
end drossref01_Of
def names8:List ByteArray:=[⟨#[97]⟩,⟨#[98]⟩,⟨#[99]⟩,⟨#[100]⟩,⟨#[101]⟩,⟨#[102]⟩,⟨#[103]⟩,⟨#[104]⟩]
structure RecOK (x:drossref03_Recipe):Prop where
 at_:0≤x.Attrs∧x.Attrs<256
 gap:0≤x.Gap∧x.Gap<256
 code:∀ r∈x.Rows,∀ c∈r,0≤c∧c<256
def codeAt (r:List Int) (k:Nat):Nat:=((r[k]?).getD 0).toNat
def wideRow (r:List Int) (n:Nat):List api_Value:=(List.range n).map fun k=>ofV (codeAt r k)
def wideT (x:drossref03_Recipe) (n:Nat):api_Table:=⟨⟨#[114]⟩,names8.take n,x.Rows.zipIdx.map fun p=>⟨1+(p.2:Int)*(1+x.Gap % 3),wideRow p.1 n⟩⟩
namespace drossref03_Wide
theorem inner {x:drossref03_Recipe} {n:Nat} {φ:api_Table→Prop} {acc:List api_Row} {i:Nat} {id:Int} {r:List Int} (hn:n≤8) (hx:RecOK x) (hr:x.Rows[i]? = some r) (hi:i<10000) (hacc:acc.length≤10000)
  (h:L1 x n (acc++[⟨id,wideRow r n⟩]) ((i+1:Nat):Int) φ):∀ k,k≤n→L2 x n acc i id (wideRow r k) k φ:=by
 refine down ?_ ?_
 ·apply L2_step
  rw [if_neg (by omega),wrap_succ (by omega)]
  exact ⟨by omega,h⟩
 ·intro k hk h
  apply L2_step
  rw [if_pos (by omega)]
  have e:wideRow r (k+1)=wideRow r k++[ofV (codeAt r k)]:=by simp [wideRow,List.range_succ]
  rw [e] at h
  have next:∀ c:Int,c=(codeAt r k:Int)→L3 x n acc i id (wideRow r k) k c φ:=by
   rintro _ rfl
   apply L3_step
   refine ⟨_,drossref01_Of.spec _,by simp [wideRow];omega,?_⟩
   rw [wrap_succ (by omega)]
   exact h
  refine ⟨r,lget_of hr,?_⟩
  split
  ·rename_i hlt
   have hlt:k<r.length:=by omega
   have hg:=List.getElem?_eq_getElem hlt
   refine ⟨r[k],lget_of hg,next _ ?_⟩
   have:=hx.code r (List.mem_of_getElem? hr) r[k] (List.getElem_mem hlt)
   unfold codeAt;rw [hg];simp;omega
  ·rename_i hlt
   refine next _ ?_
   unfold codeAt;rw [List.getElem?_eq_none (by omega)];rfl
theorem spec {x:drossref03_Recipe} {n:Nat} (hn:n≤8) (hx:RecOK x) (hr:x.Rows.length≤10000):C x n (wideT x n):=by
 obtain ⟨r,h1,h2⟩:=enter x n (fun r=>r=wideT x n) (by
  refine ⟨by omega,by simp;omega,by simp;omega,by simp;omega,?_⟩
  have loop:∀ i,i≤x.Rows.length→L1 x n ((x.Rows.zipIdx.take i).map fun p=>(⟨1+(p.2:Int)*(1+x.Gap % 3),wideRow p.1 n⟩:api_Row)) i fun r=>r=wideT x n:=by
   refine down ?_ ?_
   ·apply L1_step
    rw [if_neg (by omega),List.take_of_length_le (l:=x.Rows.zipIdx) (by simp)]
    simp only [Int.toNat_natCast,Nat.sub_zero,List.drop_zero]
    rfl
   ·intro i hi h
    apply L1_step
    rw [if_pos (by omega)]
    have hg:=List.getElem?_eq_getElem hi
    generalize x.Rows[i]=row at hg
    have hg2:x.Rows.zipIdx[i]? = some (row,i):=by rw [List.getElem?_zipIdx,hg];simp
    rw [List.take_add_one,hg2] at h
    have g:=hx.gap
    have e0:Int.tmod x.Gap 3=x.Gap % 3:=by rw [Int.tmod_eq_emod_of_nonneg g.1]
    have hp:0≤(i:Int)*(1+x.Gap % 3)∧(i:Int)*(1+x.Gap % 3)≤30000:=by
     have h3:x.Gap % 3=0∨x.Gap % 3=1∨x.Gap % 3=2:=by omega
     rcases h3 with h | h | h<;>rw [h]<;>omega
    rw [e0,wrap_id (x:=x.Gap % 3) (by omega) (by omega),wrap_id (x:=1+x.Gap % 3) (by omega) (by omega),wrap_id (x:=(i:Int)*(1+x.Gap % 3)) (by omega) (by omega),wrap_id (x:=1+(i:Int)*(1+x.Gap % 3)) (by omega) (by omega)]
    refine inner (r:=row) hn hx hg (by omega) (by simp;omega) ?_ 0 (Nat.zero_le _)
    simpa using h
  have:=loop 0 (Nat.zero_le _)
  simpa using this)
 rw [← h1];exact h2
end drossref03_Wide
def tabF (x:drossref03_Recipe) (most:Nat):api_Table×Bool:=if x.Rows.length≤most then (wideT x (x.Attrs % 6).toNat,true) else (⟨⟨#[]⟩,[],[]⟩,false)
theorem drossref03_Table.spec {x:drossref03_Recipe} {most:Nat} (hm:most≤10000) (hx:RecOK x):drossref03_Table.C x most (tabF x most):=by
 obtain ⟨r,h1,h2⟩:=drossref03_Table.enter x most (fun r=>r=tabF x most) (by
  unfold tabF
  split
  ·rw [if_neg (by omega)]
  ·rw [if_pos (by omega)]
   have:=hx.at_
   have e:IntKind.wrap .i64 (Int.tmod x.Attrs 6)=(((x.Attrs % 6).toNat:Nat):Int):=by
    rw [Int.tmod_eq_emod_of_nonneg this.1,wrap_id (by omega) (by omega)];omega
   rw [e]
   exact ⟨_,drossref03_Wide.spec (by omega) hx (by omega),rfl⟩)
 rw [← h1];exact h2
theorem name1 {b:UInt8} (h:letB (u8i b)=true):nameF ⟨#[b]⟩=true:=by
 have e:((⟨#[b]⟩:ByteArray)).toList=[b]:=bl_mk (l:=[b])
 unfold nameF
 rw [e]
 simp [nameL,h,nullB]
theorem names8_ok:∀ n,n≤8→namesF (names8.take n)=true:=by
 have hn:∀ b:UInt8,letB (u8i b)=true→nameF ⟨#[b]⟩=true:=fun b h=>name1 h
 have hne:∀ a b:UInt8,a≠b→eqS ⟨#[a]⟩ ⟨#[b]⟩=false:=by
  intro a b h
  unfold eqS
  rw [decide_eq_false_iff_not]
  intro e
  have:=congrArg (fun x:ByteArray=>x.data.toList) e
  simp at this
  exact h this.symm
 intro n hn8
 have key:namesF names8=true:=by
  unfold namesF names8
  simp only [namesGo,List.nil_append,List.cons_append,List.any_nil,List.any_cons]
  rw [hn 97 (by decide),hn 98 (by decide),hn 99 (by decide),hn 100 (by decide),hn 101 (by decide),hn 102 (by decide),hn 103 (by decide),hn 104 (by decide)]
  simp [hne]
 have pre:∀ (l pre:List ByteArray) (m:Nat),namesGo pre l=true→namesGo pre (l.take m)=true:=by
  intro l
  induction l with
  | nil=>intro pre m h;simpa using h
  | cons a l ih=>
   intro pre m h
   cases m with
   | zero=>rfl
   | succ m=>
    simp only [List.take_succ_cons,namesGo,Bool.and_eq_true] at h ⊢
    exact ⟨h.1,ih _ _ h.2⟩
 exact pre _ _ _ key
theorem rowsF_wide {n:Nat} {g:Int} (hg:0≤g):∀ (l:List (List Int)) (i:Nat) (last:Int),last<1+(i:Int)*(1+g)→rowsF n last ((l.zipIdx i).map fun p=>(⟨1+(p.2:Int)*(1+g),wideRow p.1 n⟩:api_Row))=0
 | [],_,_,_=>rfl
 | r::l,i,last,h=>by
  simp only [List.zipIdx_cons,List.map_cons,rowsF]
  rw [if_neg (by omega),if_pos (by simp [wideRow]),if_pos]
  ·refine rowsF_wide hg l (i+1) _ ?_
   have:((i+1:Nat):Int)*(1+g)=(i:Int)*(1+g)+(1+g):=by rw [Int.natCast_add,Int.add_mul];simp
   omega
  ·unfold validsF wideRow
   rw [List.all_eq_true]
   intro v hv
   obtain ⟨k,_,rfl⟩:=List.mem_map.1 hv
   exact (ofV_ok _).1
theorem wide_valid {x:drossref03_Recipe} {n:Nat} (hn:n≤8) (hx:RecOK x) (hr:x.Rows.length≤1000):TV (wideT x n):=by
 have hl:(names8.take n).length=n:=by simp [names8];omega
 refine ⟨name1 (by decide),by simp only [wideT,hl];omega,by simp [wideT];omega,names8_ok n hn,?_⟩
 simp only [wideT,hl]
 have g:=hx.gap
 exact rowsF_wide (by omega) x.Rows 0 0 (by omega)
theorem wide_attrs {x:drossref03_Recipe} {n:Nat} (hn:n≤8):(wideT x n).Attrs.length=n:=by simp [wideT,names8];omega
end Go.Own
