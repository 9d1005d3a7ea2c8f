/- What the functions that the law reaches answer. No conditions. -/
import Derived.Test.YtbemcminbfhakabGreatDoorTractableCheckLaw2
import Derived.Test.YtbemcminbfhakabGreatDoorTractableCheckLaw4
import Derived.Test.YtbemcminbfhakabGreatDoorTractableCheckLaw6
import Derived.Test.YtbemcminbfhakabGreatDoorBase2
import Derived.Test.YtbemcminbfhakabGreatDoorOwn25
set_option linter.all false
namespace Go.Own
theorem drossref02_Sub.spec {a b:Nat} (ha:a<2^32) (hb:b<2^32):drossref02_Sub.C a b (decide (a &&& b=a)):=by
 obtain ⟨r,h1,h2⟩:=drossref02_Sub.enter a b (fun r=>r=decide (a &&& b=a)) (by
  rw [bAnd_nat (k:=.u32) (by simpa [top] using ha) (by simpa [top] using hb)]
  by_cases h:a &&& b=a
  ·simp [h]
  ·have:¬ ((a &&& b:Nat):Int)=(a:Int):=by omega
   simp [h,this])
 rw [← h1];exact h2
end Go.Own
namespace Go.Own
namespace drossref02_Full
theorem loop {k:Nat} {φ:Int→Prop} (h:φ (fullN k)):∀ (m i:Nat),i+m=min k 32→L1 k ((2^i-1:Nat):Int) i φ
 | 0,i,hi=>by
  apply L1_step
  have e:((2^i-1:Nat):Int)=(fullN k:Int):=by unfold fullN;rw [← hi,Nat.add_zero]
  rw [e]
  split
  ·rw [if_neg (by omega)];exact h
  ·exact h
 | m+1,i,hi=>by
  apply L1_step
  rw [if_pos (by omega),if_pos (by omega)]
  refine ⟨by omega,?_⟩
  have hp:2^(i+1)≤2^32:=Nat.pow_le_pow_right (by decide) (by omega)
  have h2:0<2^i:=Nat.pos_of_ne_zero (by simp)
  rw [Nat.pow_succ] at hp
  rw [shl1_nat (k:=.u32) (by simp only [top];omega),bOr_nat (k:=.u32) (by simp only [top];omega) (by simp only [top];omega),wrap_succ (by omega)]
  have e:(2^i-1) ||| 2^i=2^(i+1)-1:=by
   apply Nat.eq_of_testBit_eq
   intro j
   rw [Nat.testBit_or,Nat.testBit_two_pow_sub_one,Nat.testBit_two_pow,Nat.testBit_two_pow_sub_one]
   by_cases h1:j<i
   ·have:j<i+1:=by omega
    simp [h1,this]
   ·by_cases h3:i=j
    ·subst h3;simp
    ·have:¬ j<i+1:=by omega
     simp [h1,h3,this]
  rw [e]
  exact loop h m (i+1) (by omega)
theorem spec {k:Nat}:C k (fullN k):=by
 obtain ⟨r,h1,h2⟩:=enter k (fun r=>r=(fullN k:Int)) (loop (φ:=fun r=>r=(fullN k:Int)) rfl (min k 32) 0 (by omega))
 rw [← h1];exact h2
end drossref02_Full
end Go.Own
namespace Go.Own
def FdOK (l:List api_FD):Prop:=∀ d∈l,U32 d.Lhs∧U32 d.Rhs
def inU (n:Nat) (l r:Int):Bool:=decide (sN l<2^n)&&decide (sN r<2^n)
theorem in_or {n:Nat} {l r:Int} (hl:U32 l) (hr:U32 r):(shrw .u32 (bOr .u32 l r) (n:Int)=0)↔inU n l r=true:=by
 rw [hl.eq,hr.eq,bOr_nat hl.top hr.top,shrw_nat (Nat.or_lt_two_pow hl.top hr.top)]
 unfold inU
 rw [Bool.and_eq_true,decide_eq_true_iff,decide_eq_true_iff]
 have e1:sN (sN l:Int)=sN l:=by unfold sN;omega
 have e2:sN (sN r:Int)=sN r:=by unfold sN;omega
 rw [e1,e2,← or_lt,← div_zero]
 omega
theorem sub_full {a n:Nat} (ha:a<2^32) (hn:n≤32):(a &&& fullN n=a)↔a<2^n:=by
 rw [sub_iff,lt_iff]
 constructor
 ·intro h i hi
  have:=h i hi
  rw [fullN_bit,decide_eq_true_iff] at this
  omega
 ·intro h i hi
  rw [fullN_bit,decide_eq_true_iff]
  have:=h i hi
  omega
theorem sub_in {n:Nat} {x:Int} (hn:n≤32) (hx:U32 x):drossref02_Sub.C x (fullN n) (decide (sN x<2^n)):=by
 have:=drossref02_Sub.spec (a:=sN x) (b:=fullN n) hx.lt fullN_lt
 rw [← hx.eq] at this
 have e:decide (sN x &&& fullN n=sN x)=decide (sN x<2^n):=by rw [decide_eq_decide];exact sub_full hx.lt hn
 rw [e] at this;exact this
def fdsE (n:Int) (l:List api_FD):Int:=if n<0∨16<n then 7 else if 64<l.length then 3 else if (l.all fun d=>inU n.toNat d.Lhs d.Rhs)=true then 0 else 1
theorem all_goal {α:Type} {l:List α} {p:α→Bool} {L:Int→Prop} {φ:Int→Prop} (stop:φ 0→L (l.length:Int))
  (step:∀ (k:Nat) a,l[k]? = some a→k<l.length→(if p a=true then L ((k+1:Nat):Int) else φ 1)→L k) (h:φ (if l.all p=true then 0 else 1)):L 0:=
 all_loop (l:=l) (p:=p) (L:=L) (φ:=fun b=>φ (if b=true then 0 else 1)) (fun h=>stop (by simpa using h)) (fun k a ha hk h=>step k a ha hk (by simpa using h)) h
theorem closure_Valid.spec {n:Int} {l:List api_FD} (hl:FdOK l):closure_Valid.C n l (fdsE n l):=by
 obtain ⟨r,h1,h2⟩:=closure_Valid.enter n l (fun r=>r=fdsE n l) (by
  by_cases a:n<0∨16<n
  ·have e:fdsE n l=7:=if_pos a
   rw [e]
   by_cases b:n<0
   ·rw [if_pos b]
   ·rw [if_neg b,if_pos (by omega)]
  ·rw [if_neg (by omega),if_neg (by omega)]
   by_cases b:64<l.length
   ·have e:fdsE n l=3:=by unfold fdsE;rw [if_neg a,if_pos b]
    rw [e,if_pos (by omega)]
   ·have e:fdsE n l=if (l.all fun d=>inU n.toNat d.Lhs d.Rhs)=true then 0 else 1:=by unfold fdsE;rw [if_neg a,if_neg b]
    rw [e,if_neg (by omega)]
    ·obtain ⟨m,rfl⟩:∃ m:Nat,n=m:=⟨n.toNat,by omega⟩
     refine all_goal (l:=l) (p:=fun d=>inU m d.Lhs d.Rhs) (L:=fun i=>closure_Valid.L1 m l i _) (φ:=fun r=>r=_) ?_ ?_ rfl
     ·intro h;apply closure_Valid.L1_step;rw [if_neg (by omega)];exact h
     ·intro k d hd hk h
      apply closure_Valid.L1_step
      rw [if_pos (by omega)]
      refine ⟨d,lget_of hd,by omega,?_⟩
      have hd':=hl d (List.mem_of_getElem? hd)
      have e:=in_or (n:=m) hd'.1 hd'.2
      rw [wrap_succ (by omega)]
      split
      ·rename_i hh;rw [if_pos (e.1 hh)] at h;exact h
      ·rename_i hh;rw [if_neg (fun h3=>hh (e.2 h3))] at h;exact h)
 rw [← h1];exact h2
theorem drossref09_Valid.spec {n:Int} {l:List api_FD} (hl:FdOK l):drossref09_Valid.C n l (fdsE n l):=by
 obtain ⟨r,h1,h2⟩:=drossref09_Valid.enter n l (fun r=>r=fdsE n l) (by
  by_cases a:n<0∨16<n
  ·have e:fdsE n l=7:=if_pos a
   rw [e]
   by_cases b:n<0
   ·rw [if_pos b]
   ·rw [if_neg b,if_pos (by omega)]
  ·rw [if_neg (by omega),if_neg (by omega)]
   by_cases b:64<l.length
   ·have e:fdsE n l=3:=by unfold fdsE;rw [if_neg a,if_pos b]
    rw [e,if_pos (by omega)]
   ·have e:fdsE n l=if (l.all fun d=>inU n.toNat d.Lhs d.Rhs)=true then 0 else 1:=by unfold fdsE;rw [if_neg a,if_neg b]
    rw [e,if_neg (by omega)]
    ·obtain ⟨m,rfl⟩:∃ m:Nat,n=m:=⟨n.toNat,by omega⟩
     refine ⟨_,drossref02_Full.spec,?_⟩
     refine all_goal (l:=l) (p:=fun d=>inU m d.Lhs d.Rhs) (L:=fun i=>drossref09_Valid.L1 l (fullN m) i _) (φ:=fun r=>r=_) ?_ ?_ rfl
     ·intro h;apply drossref09_Valid.L1_step;rw [if_neg (by omega)];exact h
     ·intro k d hd hk h
      apply drossref09_Valid.L1_step
      rw [if_pos (by omega)]
      have hd':=hl d (List.mem_of_getElem? hd)
      refine ⟨d,lget_of hd,_,sub_in (by omega) hd'.1,?_⟩
      rw [wrap_succ (by omega)]
      unfold inU at h
      split
      ·rename_i hh
       refine ⟨_,sub_in (by omega) hd'.2,?_⟩
       split
       ·rename_i h3;rw [if_pos (by rw [hh,h3];rfl)] at h;exact h
       ·rename_i h3;rw [if_neg (by rw [hh,Bool.true_and];exact h3)] at h;exact h
      ·rename_i hh;rw [if_neg (by rw [Bool.eq_false_iff.2 hh];simp)] at h;exact h)
 rw [← h1];exact h2
theorem fdsE_n {n:Int} {l:List api_FD} (h:fdsE n l=0):0≤n∧n≤16:=by
 unfold fdsE at h
 split at h
 ·cases h
 ·omega
end Go.Own
namespace Go.Own
def passN:List api_FD→Nat→Nat
 | [],s=>s
 | d::l,s=>passN l (if sN d.Lhs &&& s=sN d.Lhs then s ||| sN d.Rhs else s)
def passK (l:List api_FD):Nat→Nat→Nat
 | 0,s=>s
 | k+1,s=>passK l k (passN l s)
def cloN (l:List api_FD) (s:Nat):Nat:=passK l 33 s
def subN (a b:Nat):Prop:=∀ i,a.testBit i=true→b.testBit i=true
theorem subN_refl (a:Nat):subN a a:=fun _ h=>h
theorem subN_trans {a b c:Nat} (h:subN a b) (k:subN b c):subN a c:=fun i hi=>k i (h i hi)
theorem subN_or {a b:Nat}:subN a (a ||| b):=fun i hi=>by rw [Nat.testBit_or,hi];rfl
theorem subN_anti {a b:Nat} (h:subN a b) (k:subN b a):a=b:=Nat.eq_of_testBit_eq fun i=>by
 cases ha:a.testBit i with
 | true=>exact (h i ha).symm
 | false=>
  cases hb:b.testBit i with
  | true=>rw [k i hb] at ha;cases ha
  | false=>rfl
theorem passN_up:∀ {l:List api_FD} {s:Nat},subN s (passN l s)
 | [],s=>subN_refl s
 | d::l,s=>by
  rw [passN]
  split
  ·exact subN_trans subN_or passN_up
  ·exact passN_up
theorem passN_lt:∀ {l:List api_FD} {s n:Nat},s<2^n→(∀ d∈l,sN d.Rhs<2^n)→passN l s<2^n
 | [],_,_,h,_=>h
 | d::l,s,n,h,hl=>by
  rw [passN]
  refine passN_lt ?_ fun x hx=>hl x (by simp [hx])
  split
  ·exact Nat.or_lt_two_pow h (hl d (by simp))
  ·exact h
def IsClo (l:List api_FD) (s:Nat):Prop:=∀ d∈l,subN (sN d.Lhs) s→subN (sN d.Rhs) s
theorem passN_fix:∀ {l:List api_FD} {s:Nat},passN l s=s→IsClo l s
 | [],_,_=>fun d hd=>by cases hd
 | d::l,s,h=>by
  rw [passN] at h
  have h1:(if sN d.Lhs &&& s=sN d.Lhs then s ||| sN d.Rhs else s)=s:=by
   refine subN_anti ?_ ?_
   ·have:=passN_up (l:=l) (s:=if sN d.Lhs &&& s=sN d.Lhs then s ||| sN d.Rhs else s)
    rw [h] at this;exact this
   ·split
    ·exact subN_or
    ·exact subN_refl s
  rw [h1] at h
  intro x hx hs
  rcases List.mem_cons.1 hx with rfl | hx
  ·rw [if_pos (sub_iff.2 hs)] at h1
   intro i hi
   rw [← h1,Nat.testBit_or,hi,Bool.or_true]
  ·exact passN_fix h x hx hs
theorem passK_fix {l:List api_FD} {s:Nat} (h:passN l s=s):∀ k,passK l k s=s
 | 0=>rfl
 | k+1=>by rw [passK,h];exact passK_fix h k
theorem szN_lt {a b:Nat} (hs:subN a b) (hne:a≠b) (hb:b<2^32):szN a<szN b:=by
 have hex:∃ i,b.testBit i=true∧a.testBit i=false:=by
  false_or_by_contra
  rename_i h
  refine hne (subN_anti hs fun i hi=>?_)
  cases ha:a.testBit i with
  | true=>rfl
  | false=>exact absurd ⟨i,hi,ha⟩ h
 obtain ⟨i,h1,h2⟩:=hex
 have hmem:i∈bitsOf b:=(bitsOf_mem hb).2 h1
 have ha:a<2^32:=by
  refine lt_iff.2 fun j hj=>?_
  exact lt_iff.1 hb j (hs j hj)
 have hsub:(bitsOf a).length+1≤(bitsOf b).length:=by
  have hnd:(i::bitsOf a).Nodup:=by
   rw [List.nodup_cons]
   refine ⟨fun h=>?_,(bitsOf_sorted (n:=a)).imp fun h=>by omega⟩
   rw [bitsOf_mem ha,h2] at h;cases h
  have:(i::bitsOf a) ⊆ bitsOf b:=by
   intro x hx
   rcases List.mem_cons.1 hx with rfl | hx
   ·exact hmem
   ·exact (bitsOf_mem hb).2 (hs x ((bitsOf_mem ha).1 hx))
  exact hnd.length_le_of_subset this
 exact hsub
theorem passK_done {l:List api_FD} (hl:∀ d∈l,sN d.Rhs<2^32):∀ {k s:Nat},s<2^32→33≤k+szN s→passN l (passK l k s)=passK l k s
 | 0,s,hs,hk=>by have:=bitsOf_len (n:=s);unfold szN at hk;omega
 | k+1,s,hs,hk=>by
  rw [passK]
  by_cases h:passN l s=s
  ·rw [h,passK_fix h,h]
  ·have:=szN_lt (passN_up (l:=l)) (Ne.symm h) (passN_lt hs hl)
   exact passK_done hl (passN_lt hs hl) (by omega)
theorem passK_lt {l:List api_FD} {n:Nat} (hl:∀ d∈l,sN d.Rhs<2^n):∀ {k s:Nat},s<2^n→passK l k s<2^n
 | 0,_,h=>h
 | k+1,_,h=>passK_lt hl (k:=k) (passN_lt h hl)
theorem cloN_clo {l:List api_FD} {s:Nat} (hl:∀ d∈l,sN d.Rhs<2^32) (hs:s<2^32):IsClo l (cloN l s):=passN_fix (passK_done hl hs (by omega))
theorem cloN_lt {l:List api_FD} {n s:Nat} (hl:∀ d∈l,sN d.Rhs<2^n) (hs:s<2^n):cloN l s<2^n:=passK_lt hl hs
end Go.Own
namespace Go.Own
def clr1 (d:api_FD):api_FD:=⟨d.Lhs,bAndNot .u32 d.Rhs d.Lhs⟩
def clrGo (out:List api_FD):List api_FD→List api_FD
 | []=>out
 | d::l=>clrGo (if (clr1 d).Rhs=0 then out else if clr1 d∈out then out else out++[clr1 d]) l
def clearF (l:List api_FD):List api_FD:=clrGo [] l
theorem clr1_u {d:api_FD} (h:U32 d.Lhs∧U32 d.Rhs):U32 (clr1 d).Lhs∧U32 (clr1 d).Rhs:=by
 refine ⟨h.1,?_⟩
 unfold clr1
 simp only
 rw [h.2.eq,h.1.eq,bAndNot_nat (k:=.u32) h.2.top h.1.top]
 exact U32.of (Nat.lt_of_le_of_lt ndiff_le h.2.lt)
theorem clr1_rhs {d:api_FD} (h:U32 d.Lhs∧U32 d.Rhs):sN (clr1 d).Rhs=ndiff (sN d.Rhs) (sN d.Lhs):=by
 unfold clr1
 simp only
 have:=bAndNot_nat (k:=.u32) h.2.top h.1.top
 rw [← h.2.eq,← h.1.eq] at this
 rw [this,sN_nat]
theorem clr1_idem {d:api_FD} (h:U32 d.Lhs∧U32 d.Rhs):clr1 (clr1 d)=clr1 d:=by
 have h1:=clr1_u h
 have h2:=clr1_u h1
 have:(clr1 (clr1 d)).Rhs=(clr1 d).Rhs:=by
  refine U32.ext h2.2 h1.2 ?_
  rw [clr1_rhs h1,clr1_rhs h]
  refine Nat.eq_of_testBit_eq fun i=>?_
  rw [ndiff_bit,ndiff_bit]
  show (_&&_&&!(sN d.Lhs).testBit i)=_
  cases (sN d.Rhs).testBit i<;>cases (sN d.Lhs).testBit i<;>rfl
 cases hd:clr1 (clr1 d) with
 | mk a b=>
  have e1:a=(clr1 d).Lhs:=by
   have:(clr1 (clr1 d)).Lhs=(clr1 d).Lhs:=rfl
   rw [hd] at this;exact this
  rw [hd] at this
  simp only at this
  rw [e1,this]
def IsClr (l:List api_FD):Prop:=(∀ d∈l,clr1 d=d∧d.Rhs≠0)∧l.Nodup
theorem clrGo_ok:∀ {l out:List api_FD},FdOK l→FdOK out→IsClr out→FdOK (clrGo out l)∧IsClr (clrGo out l)∧(clrGo out l).length≤out.length+l.length
 | [],out,_,ho,hc=>⟨ho,hc,by simp [clrGo]⟩
 | d::l,out,hl,ho,hc=>by
  have hd:=hl d (by simp)
  have hl':FdOK l:=fun x hx=>hl x (by simp [hx])
  rw [clrGo]
  split
  ·obtain ⟨h1,h2,h3⟩:=clrGo_ok hl' ho hc
   exact ⟨h1,h2,by simp only [List.length_cons];omega⟩
  ·rename_i h0
   split
   ·obtain ⟨h1,h2,h3⟩:=clrGo_ok hl' ho hc
    exact ⟨h1,h2,by simp only [List.length_cons];omega⟩
   ·rename_i hn
    obtain ⟨h1,h2,h3⟩:=clrGo_ok (out:=out++[clr1 d]) hl' (fun x hx=>by
     rcases List.mem_append.1 hx with hx | hx
     ·exact ho x hx
     ·rw [List.mem_singleton.1 hx];exact clr1_u hd) ⟨fun x hx=>by
     rcases List.mem_append.1 hx with hx | hx
     ·exact hc.1 x hx
     ·rw [List.mem_singleton.1 hx];exact ⟨clr1_idem hd,h0⟩,by
     rw [List.nodup_append]
     exact ⟨hc.2,by simp,fun a ha b hb=>by rw [List.mem_singleton.1 hb];rintro rfl;exact hn ha⟩⟩
    exact ⟨h1,h2,by simp only [List.length_append,List.length_cons,List.length_nil] at h3 ⊢;omega⟩
theorem clr_nil:IsClr []:=⟨fun x hx=>(List.not_mem_nil hx).elim,List.nodup_nil⟩
theorem fd_nil:FdOK []:=fun x hx=>(List.not_mem_nil hx).elim
theorem clear_ok {l:List api_FD} (hl:FdOK l):FdOK (clearF l):=(clrGo_ok hl fd_nil clr_nil).1
theorem clear_clr {l:List api_FD} (hl:FdOK l):IsClr (clearF l):=(clrGo_ok hl fd_nil clr_nil).2.1
theorem clear_len {l:List api_FD} (hl:FdOK l):(clearF l).length≤l.length:=by
 have:=(clrGo_ok hl fd_nil clr_nil).2.2
 simpa [clearF] using this
theorem clrGo_id:∀ {l out:List api_FD},IsClr (out++l)→clrGo out l=out++l
 | [],out,_=>by simp [clrGo]
 | d::l,out,h=>by
  obtain ⟨h1,h2⟩:=h.1 d (by simp)
  have hn:d ∉ out:=fun hd=>by
   have:=h.2
   rw [List.nodup_append] at this
   exact this.2.2 d hd d (by simp) rfl
  rw [clrGo,h1,if_neg h2,if_neg hn,clrGo_id (by rw [List.append_assoc];exact h),List.append_assoc];rfl
theorem clear_id {l:List api_FD} (h:IsClr l):clearF l=l:=clrGo_id (out:=[]) h
def subI (a b:Int):Bool:=decide (sN a &&& sN b=sN a)
def leftF (l:List api_FD) (s:Int):Bool:=l.any fun d=>decide (d.Lhs=s)
def covF (l:List api_FD) (a b:Int):Bool:=l.all fun d=>subI a d.Lhs || subI b d.Lhs
def cloI (l:List api_FD) (s:Int):Int:=((cloN l (sN s):Nat):Int)
def possF (l:List api_FD) (x:api_Step):Bool:=
 if x.Kind=1 then decide (0<l.length)&&(decide (szN (sN x.First)=1)&&(decide (x.Second=0)&&covF l x.First x.First))
 else if x.Kind=2 then leftF l 0&&(decide (x.First=cloI l 0)&&decide (x.Second=0))
 else if x.Kind=3 then !decide (x.First=x.Second)&&(leftF l x.First&&(leftF l x.Second&&(decide (cloI l x.First=cloI l x.Second)&&covF l x.First x.Second)))
 else false
def StepOK (x:api_Step):Prop:=U32 x.First∧U32 x.Second
def cutF (l:List api_FD) (s:Int):List api_FD:=l.map fun d=>⟨bAndNot .u32 d.Lhs s,bAndNot .u32 d.Rhs s⟩
theorem andU (a b:Int) (ha:U32 a) (hb:U32 b):U32 (bAndNot .u32 a b):=by
 rw [ha.eq,hb.eq,bAndNot_nat (k:=.u32) ha.top hb.top]
 exact U32.of (Nat.lt_of_le_of_lt ndiff_le ha.lt)
theorem cut_ok {l:List api_FD} {s:Int} (hl:FdOK l) (hs:U32 s):FdOK (cutF l s):=fun d hd=>by
 obtain ⟨x,hx,rfl⟩:=List.mem_map.1 hd
 exact ⟨andU _ _ (hl x hx).1 hs,andU _ _ (hl x hx).2 hs⟩
def applyF (l:List api_FD) (x:api_Step):List api_FD×Int:=
 if possF (clearF l) x=true then (clearF (cutF (clearF l) (bOr .u32 x.First x.Second)),0) else ([],1)
def comGo (s:Nat) (l:List api_FD):Nat:=l.foldl (fun s d=>s &&& sN d.Lhs) s
def comN:List api_FD→Nat
 | []=>0
 | d::l=>comGo (sN d.Lhs) (d::l)
theorem comGo_bit {i:Nat}:∀ {l:List api_FD} {s:Nat},(comGo s l).testBit i=(s.testBit i&&l.all fun d=>(sN d.Lhs).testBit i)
 | [],s=>by simp [comGo]
 | d::l,s=>by
  have:=comGo_bit (i:=i) (l:=l) (s:=s &&& sN d.Lhs)
  unfold comGo at this ⊢
  rw [List.foldl_cons,this,Nat.testBit_and,List.all_cons,Bool.and_assoc]
theorem comN_bit {i:Nat} {l:List api_FD} (h:l≠[]):(comN l).testBit i=l.all fun d=>(sN d.Lhs).testBit i:=by
 cases l with
 | nil=>exact absurd rfl h
 | cons d l=>
  rw [comN,comGo_bit,List.all_cons]
  cases (sN d.Lhs).testBit i<;>rfl
theorem comGo_lt:∀ {l:List api_FD} {s:Nat},s<2^32→comGo s l<2^32
 | [],s,h=>h
 | d::l,s,h=>by
  unfold comGo
  rw [List.foldl_cons]
  exact comGo_lt (Nat.lt_of_le_of_lt Nat.and_le_left h)
theorem comN_lt {l:List api_FD} (hl:FdOK l):comN l<2^32:=by
 cases l with
 | nil=>rw [comN];decide
 | cons d l=>exact comGo_lt (hl d (by simp)).1.lt
theorem sub_com {l:List api_FD} {a:Int} (h:l≠[]):(sN a &&& comN l=sN a)↔covF l a a=true:=by
 unfold covF subI
 rw [List.all_eq_true,sub_iff]
 constructor
 ·intro hh d hd
  rw [Bool.or_self,decide_eq_true_eq,sub_iff]
  intro i hi
  have:=hh i hi
  rw [comN_bit h,List.all_eq_true] at this
  exact this d hd
 ·intro hh i hi
  rw [comN_bit h,List.all_eq_true]
  intro d hd
  have:=hh d hd
  rw [Bool.or_self,decide_eq_true_eq,sub_iff] at this
  exact this i hi
theorem szN_pow {a:Nat} (ha:a<32):szN (2^a)=1:=by
 have h0:(2^a:Nat)≠0:=Nat.ne_of_gt (Nat.pow_pos (by omega))
 have h1:(2^a:Nat)<2^32:=Nat.pow_lt_pow_right (by omega) ha
 unfold szN
 rw [bitsOf_cons h0 h1,Nat.and_two_pow_sub_one_eq_mod,Nat.mod_self,bitsOf_zero];rfl
theorem pow_sub {a:Nat} {b:Int}:subI ((2^a:Nat):Int) b=(sN b).testBit a:=by
 unfold subI
 rw [sN_nat]
 cases h:(sN b).testBit a with
 | true=>
  refine decide_eq_true (sub_iff.2 fun i hi=>?_)
  rw [Nat.testBit_two_pow] at hi
  have:a=i:=by simpa using hi
  rw [← this];exact h
 | false=>
  refine decide_eq_false fun hh=>?_
  have:=sub_iff.1 hh a (by rw [Nat.testBit_two_pow];simp)
  rw [h] at this;cases this
theorem poss_bit {l:List api_FD} {a:Nat} (ha:a<32):possF l ⟨1,((2^a:Nat):Int),0⟩=(comN l).testBit a:=by
 unfold possF
 rw [if_pos rfl]
 simp only [sN_nat,szN_pow ha,decide_true,Bool.true_and]
 cases l with
 | nil=>simp [comN]
 | cons d l=>
  rw [comN_bit (by simp)]
  simp only [List.length_cons,Nat.zero_lt_succ,decide_true,Bool.true_and,covF,pow_sub,Bool.or_self]
def firstN (p:Nat→Bool):Nat→Nat→Option Nat
 | 0,_=>none
 | n+1,k=>if p k=true then some k else firstN p n (k+1)
theorem firstN_some {p:Nat→Bool} {i:Nat} (hi:p i=true):∀ {n k:Nat},(∀ j,k≤j→j<i→p j=false)→k≤i→i<k+n→firstN p n k=some i
 | 0,k,_,h1,h2=>by omega
 | n+1,k,h,h1,h2=>by
  rw [firstN]
  by_cases hk:k=i
  ·rw [hk,if_pos hi]
  ·rw [if_neg (by rw [h k (Nat.le_refl k) (by omega)];decide)]
   exact firstN_some hi (fun j hj=>h j (by omega)) (by omega) (by omega)
theorem firstN_none {p:Nat→Bool}:∀ {n k:Nat},(∀ j,k≤j→j<k+n→p j=false)→firstN p n k=none
 | 0,k,_=>rfl
 | n+1,k,h=>by
  rw [firstN,if_neg (by rw [h k (Nat.le_refl k) (by omega)];decide)]
  exact firstN_none fun j h1 h2=>h j (by omega) (by omega)
theorem firstN_is {p:Nat→Bool} {i:Nat}:∀ {n k:Nat},firstN p n k=some i→p i=true∧k≤i∧i<k+n
 | 0,k,h=>by cases h
 | n+1,k,h=>by
  rw [firstN] at h
  split at h
  ·simp only [Option.some.injEq] at h;subst h;exact ⟨by assumption,by omega,by omega⟩
  ·have:=firstN_is h
   exact ⟨this.1,by omega,by omega⟩
theorem least_bit {x:Nat} (h:x≠0):∃ i,x.testBit i=true∧∀ j,j<i→x.testBit j=false:=by
 obtain ⟨i,hi⟩:∃ i,x.testBit i=true:=by
  false_or_by_contra
  rename_i hn
  exact h (Nat.eq_of_testBit_eq fun i=>by
   rw [Nat.zero_testBit]
   cases hb:x.testBit i with
   | false=>rfl
   | true=>exact absurd ⟨i,hb⟩ hn)
 induction i using Nat.strongRecOn with
 | ind i ih=>
  by_cases hex:∃ j,j<i∧x.testBit j=true
  ·obtain ⟨j,hj,hb⟩:=hex
   exact ih j hj hb
  ·exact ⟨i,hi,fun j hj=>by
    cases hb:x.testBit j with
    | false=>rfl
    | true=>exact absurd ⟨j,hj,hb⟩ hex⟩
theorem bit_lt {x i:Nat} (hx:x<2^32) (h:x.testBit i=true):i<32:=by
 false_or_by_contra
 rename_i hge
 rw [Nat.testBit_lt_two_pow (Nat.lt_of_lt_of_le hx (Nat.pow_le_pow_right (by omega) (by omega)))] at h
 cases h
def sidesF (l:List api_FD):List Int:=ordL (l.map fun d=>d.Lhs)
theorem sides_mem {l:List api_FD} (hl:FdOK l) {s:Int}:s∈sidesF l↔leftF l s=true:=by
 have hu:AllU (l.map fun d=>d.Lhs):=fun y hy=>by
  obtain ⟨d,hd,rfl⟩:=List.mem_map.1 hy
  exact (hl d hd).1
 unfold sidesF leftF
 rw [ordL_mem hu,List.any_eq_true,List.mem_map]
 simp only [decide_eq_true_eq]
theorem sides_all {l:List api_FD} (hl:FdOK l):AllU (sidesF l):=ordL_all fun y hy=>by
 obtain ⟨d,hd,rfl⟩:=List.mem_map.1 hy
 exact (hl d hd).1
theorem sides_len {l:List api_FD}:(sidesF l).length≤l.length:=by
 have:=ordL_len (l:=l.map fun d=>d.Lhs)
 simpa [sidesF] using this
def pairGo (l:List api_FD):List Int→Option (Int×Int)
 | []=>none
 | a::r=>match r.find? (fun b=>possF l ⟨3,a,b⟩) with
  | some b=>some (a,b)
  | none=>pairGo l r
def nextF (l:List api_FD):api_Step×Bool:=match firstN (fun a=>possF l ⟨1,((2^a:Nat):Int),0⟩) 32 0 with
 | some a=>(⟨1,((2^a:Nat):Int),0⟩,true)
 | none=>if possF l ⟨2,cloI l 0,0⟩=true then (⟨2,cloI l 0,0⟩,true) else match pairGo l (sidesF l) with
  | some q=>(⟨3,q.1,q.2⟩,true)
  | none=>(⟨0,0,0⟩,false)
theorem next_common {l:List api_FD} (hl:FdOK l):firstN (fun a=>possF l ⟨1,((2^a:Nat):Int),0⟩) 32 0=if comN l=0 then none else firstN (fun a=>(comN l).testBit a) 32 0:=by
 have e:∀ n k,k+n≤32→firstN (fun a=>possF l ⟨1,((2^a:Nat):Int),0⟩) n k=firstN (fun a=>(comN l).testBit a) n k:=by
  intro n
  induction n with
  | zero=>intro k _;rfl
  | succ n ih=>intro k hk;rw [firstN,firstN,poss_bit (by omega),ih (k+1) (by omega)]
 rw [e 32 0 (by omega)]
 split
 ·rename_i h0
  rw [h0]
  exact firstN_none fun j _ _=>Nat.zero_testBit j
 ·rfl
theorem pair_is {l:List api_FD} {q:Int×Int}:∀ {r:List Int},pairGo l r=some q→q.1∈r∧q.2∈r∧possF l ⟨3,q.1,q.2⟩=true
 | [],h=>by cases h
 | a::r,h=>by
  rw [pairGo] at h
  split at h
  ·rename_i b hb
   simp only [Option.some.injEq] at h
   subst h
   have hp:=List.find?_some (p:=fun b=>possF l ⟨3,a,b⟩) hb
   exact ⟨by simp,List.mem_cons_of_mem _ (List.mem_of_find?_eq_some hb),hp⟩
  ·obtain ⟨h1,h2,h3⟩:=pair_is h
   exact ⟨List.mem_cons_of_mem _ h1,List.mem_cons_of_mem _ h2,h3⟩
theorem cloI_u {l:List api_FD} (hl:FdOK l) {s:Int} (hs:U32 s):U32 (cloI l s):=U32.of (cloN_lt (n:=32) (fun d hd=>(hl d hd).2.lt) hs.lt)
theorem U32_zero:U32 0:=⟨by omega,by omega⟩
theorem next_is {l:List api_FD} (hl:FdOK l) (h:(nextF l).2=true):possF l (nextF l).1=true∧StepOK (nextF l).1:=by
 unfold nextF at h ⊢
 cases h1:firstN (fun a=>possF l ⟨1,((2^a:Nat):Int),0⟩) 32 0 with
 | some a=>
  obtain ⟨h2,_,h3⟩:=firstN_is h1
  simp only
  exact ⟨h2,U32.of (Nat.pow_lt_pow_right (by omega) (by omega)),U32_zero⟩
 | none=>
  rw [h1] at h
  simp only at h ⊢
  by_cases h2:possF l ⟨2,cloI l 0,0⟩=true
  ·rw [if_pos h2]
   exact ⟨h2,cloI_u hl U32_zero,U32_zero⟩
  ·rw [if_neg h2] at h ⊢
   cases h3:pairGo l (sidesF l) with
   | none=>rw [h3] at h;cases h
   | some q=>
    obtain ⟨g1,g2,g3⟩:=pair_is h3
    exact ⟨g3,sides_all hl _ g1,sides_all hl _ g2⟩
end Go.Own
namespace Go.Own
def pop8 (m:Nat):Nat:=((List.range 8).filter fun i=>m.testBit i).length
theorem filter_shift {n k:Nat}:((List.range 8).map (·+k)).filter (fun i=>n.testBit i)=((List.range 8).filter fun i=>(n / 2^k % 256).testBit i).map (·+k):=by
 rw [List.filter_map]
 congr 1
 refine List.filter_congr fun i hi=>?_
 have hi:=List.mem_range.1 hi
 simp only [Function.comp]
 rw [show (256:Nat)=2^8 from rfl,Nat.testBit_mod_two_pow,Nat.testBit_div_two_pow]
 simp [hi]
theorem szN_bytes (n:Nat):szN n=pop8 (n % 256)+pop8 (n / 2^8 % 256)+pop8 (n / 2^16 % 256)+pop8 (n / 2^24 % 256):=by
 have e:List.range 32=(List.range 8).map (·+0)++(List.range 8).map (·+8)++(List.range 8).map (·+16)++(List.range 8).map (·+24):=by decide
 unfold szN bitsOf pop8
 rw [e,List.filter_append,List.filter_append,List.filter_append,filter_shift,filter_shift,filter_shift,filter_shift]
 simp only [List.length_append,List.length_map,Nat.pow_zero,Nat.div_one]
theorem and255 (a:Nat):a &&& 255=a % 256:=Nat.and_two_pow_sub_one_eq_mod a 8
theorem pop8_le {m:Nat}:pop8 m≤8:=by
 unfold pop8
 exact Nat.le_trans (List.length_filter_le _ _) (by simp)
theorem u8i_pop {m:Nat}:u8i (UInt8.ofNat (pop8 m))=(pop8 m:Int):=by
 unfold u8i
 rw [UInt8.toNat_ofNat']
 have:=pop8_le (m:=m)
 omega
theorem math_bits_OnesCount32.spec {n:Nat} (hn:n<2^32):math_bits_OnesCount32.C n (szN n:Int):=by
 obtain ⟨r,h1,h2⟩:=math_bits_OnesCount32.enter n (fun r=>r=(szN n:Int)) (by
  have ht:n<2^top .u32:=by simpa [top] using hn
  have e24:=shrw_nat (k:=.u32) (a:=n) (i:=24) ht
  have e16:=shrw_nat (k:=.u32) (a:=n) (i:=16) ht
  have e8:=shrw_nat (k:=.u32) (a:=n) (i:=8) ht
  rw [show ((24:Nat):Int)=24 from rfl] at e24
  rw [show ((16:Nat):Int)=16 from rfl] at e16
  rw [show ((8:Nat):Int)=8 from rfl] at e8
  have a255:∀ a:Nat,a<2^32→bAnd .u32 (a:Int) 255=((a % 256:Nat):Int):=fun a ha=>by
   have:=bAnd_nat (k:=.u32) (a:=a) (b:=255) (by simpa [top] using ha) (by simp only [top];omega)
   rw [show ((255:Nat):Int)=255 from rfl] at this
   rw [this,and255]
  rw [e24,e16,e8,a255 _ (Nat.lt_of_le_of_lt (Nat.div_le_self _ _) hn),a255 _ (Nat.lt_of_le_of_lt (Nat.div_le_self _ _) hn),a255 _ hn]
  have h24:n / 2^24<256:=by omega
  have em:n / 2^24=n / 2^24 % 256:=(Nat.mod_eq_of_lt h24).symm
  have hs:=szN_bytes n
  rw [em]
  have m1:n / 2^24 % 256<256:=Nat.mod_lt _ (by omega)
  have m2:n / 2^16 % 256<256:=Nat.mod_lt _ (by omega)
  have m3:n / 2^8 % 256<256:=Nat.mod_lt _ (by omega)
  have m4:n % 256<256:=Nat.mod_lt _ (by omega)
  generalize n / 2^24 % 256=q1 at *
  generalize n / 2^16 % 256=q2 at *
  generalize n / 2^8 % 256=q3 at *
  generalize n % 256=q4 at *
  clear hn ht e24 e16 e8 a255 h24 em
  refine ⟨UInt8.ofNat (pop8 q1),⟨by omega,?_⟩,UInt8.ofNat (pop8 q2),⟨by omega,?_⟩,UInt8.ofNat (pop8 q3),⟨by omega,?_⟩,UInt8.ofNat (pop8 q4),⟨by omega,?_⟩,?_⟩
  ·rw [Int.toNat_natCast]
   clear hs m2 m3 m4
   revert q1
   decide +kernel
  ·rw [Int.toNat_natCast]
   clear hs m1 m3 m4
   revert q2
   decide +kernel
  ·rw [Int.toNat_natCast]
   clear hs m1 m2 m4
   revert q3
   decide +kernel
  ·rw [Int.toNat_natCast]
   clear hs m1 m2 m3
   revert q4
   decide +kernel
  ·rw [u8i_pop,u8i_pop,u8i_pop,u8i_pop]
   have b1:=pop8_le (m:=q1)
   have b2:=pop8_le (m:=q2)
   have b3:=pop8_le (m:=q3)
   have b4:=pop8_le (m:=q4)
   have w8:∀ a b:Nat,a+b<256→IntKind.wrap .u8 ((a:Int)+(b:Int))=((a+b:Nat):Int):=fun a b h=>by
    rw [show (a:Int)+(b:Int)=((a+b:Nat):Int) by omega]
    exact wrap_top (k:=.u8) (by simpa [top] using h)
   rw [w8 _ _ (by omega),w8 _ _ (by omega),w8 _ _ (by omega),hs]
   have:pop8 q1+pop8 q2+pop8 q3+pop8 q4=pop8 q4+pop8 q3+pop8 q2+pop8 q1:=by omega
   rw [this]
   exact wrap_id (by omega) (by omega))
 rw [← h1];exact h2
theorem attrset_Size.spec {x:Int} (hx:U32 x):attrset_Size.C x (szN (sN x):Int):=by
 have:=math_bits_OnesCount32.spec hx.lt
 rw [← hx.eq] at this
 obtain ⟨r,h1,h2⟩:=attrset_Size.enter x (fun r=>r=(szN (sN x):Int)) ⟨_,this,rfl⟩
 rw [← h1];exact h2
end Go.Own
namespace Go.Own
namespace drossref02_Has
theorem spec {n i:Nat} (hn:n<2^32):C n i (n.testBit i):=by
 obtain ⟨r,h1,h2⟩:=enter n i (fun r=>r=n.testBit i) (by
  rw [if_pos (by omega)]
  split
  ·refine ⟨by omega,?_⟩
   rw [bit_nat (k:=.u32) (by simpa [top] using hn) (by decide)]
   cases n.testBit i<;>rfl
  ·rw [Nat.testBit_lt_two_pow (Nat.lt_of_lt_of_le hn (Nat.pow_le_pow_right (by decide) (by omega)))])
 rw [← h1];exact h2
end drossref02_Has
end Go.Own
namespace Go.Own
theorem drossref02_Members.spec {n:Nat} (hn:n<2^32):drossref02_Members.C n ((bitsOf n).map fun (i:Nat)=>(i:Int)):=by
 obtain ⟨r,h1,h2⟩:=drossref02_Members.enter n (fun r=>r=(bitsOf n).map fun (i:Nat)=>(i:Int)) (by
  have:∀ (m k:Nat),32-k≤m→k≤32→drossref02_Members.L1 n (((List.range k).filter fun i=>n.testBit i).map fun (i:Nat)=>(i:Int)) k (fun r=>r=(bitsOf n).map fun (i:Nat)=>(i:Int)):=by
   intro m
   induction m with
   | zero=>
    intro k hm hk
    apply drossref02_Members.L1_step
    rw [if_neg (by omega)]
    have e:k=32:=by omega
    subst e;rfl
   | succ m ih=>
    intro k hm hk
    apply drossref02_Members.L1_step
    by_cases hlt:k<32
    ·rw [if_pos (by omega)]
     refine ⟨_,drossref02_Has.spec hn,?_⟩
     have hlen:(((List.range k).filter fun i=>n.testBit i).map fun (i:Nat)=>(i:Int)).length≤32:=by
      rw [List.length_map]
      exact Nat.le_trans (List.length_filter_le _ _) (by simp;omega)
     have:=ih (k+1) (by omega) (by omega)
     rw [List.range_succ,List.filter_append,List.map_append] at this
     by_cases hb:n.testBit k=true
     ·rw [if_pos hb]
      refine ⟨by omega,?_⟩
      apply drossref02_Members.L2_step
      rw [wrap_succ (by omega)]
      simpa [hb] using this
     ·rw [if_neg hb]
      apply drossref02_Members.L2_step
      rw [wrap_succ (by omega)]
      simpa [hb] using this
    ·rw [if_neg (by omega)]
     have e:k=32:=by omega
     subst e;rfl
  exact this 32 0 (by omega) (by omega))
 rw [← h1];exact h2
end Go.Own
namespace Go.Own
end Go.Own
namespace Go.Own
def atts:List api_FD→Nat
 | []=>0
 | d::l=>sN d.Lhs ||| sN d.Rhs ||| atts l
theorem atts_bit {i:Nat}:∀ {l:List api_FD},(atts l).testBit i=l.any fun d=>(sN d.Lhs).testBit i || (sN d.Rhs).testBit i
 | []=>by simp [atts]
 | d::l=>by rw [atts,Nat.testBit_or,Nat.testBit_or,List.any_cons,atts_bit]
theorem atts_lt:∀ {l:List api_FD},FdOK l→atts l<2^32
 | [],_=>by rw [atts];decide
 | d::l,h=>by
  rw [atts]
  exact Nat.or_lt_two_pow (Nat.or_lt_two_pow (h d (by simp)).1.lt (h d (by simp)).2.lt) (atts_lt fun x hx=>h x (by simp [hx]))
theorem andNot_bit {a b:Int} (ha:U32 a) (hb:U32 b) {i:Nat}:(sN (bAndNot .u32 a b)).testBit i=((sN a).testBit i&&!(sN b).testBit i):=by
 have:=bAndNot_nat (k:=.u32) ha.top hb.top
 rw [← ha.eq,← hb.eq] at this
 rw [this,sN_nat,ndiff_bit]
theorem or_bit {a b:Int} (ha:U32 a) (hb:U32 b) {i:Nat}:(sN (bOr .u32 a b)).testBit i=((sN a).testBit i || (sN b).testBit i):=by
 have:=bOr_nat (k:=.u32) ha.top hb.top
 rw [← ha.eq,← hb.eq] at this
 rw [this,sN_nat,Nat.testBit_or]
theorem clrGo_mem:∀ {l out:List api_FD} {d:api_FD},d∈clrGo out l→d∈out∨∃ x∈l,d=clr1 x
 | [],out,d,h=>.inl h
 | x::l,out,d,h=>by
  rw [clrGo] at h
  have fin_:∀ {o:List api_FD},d∈clrGo o l→(d∈o→d∈out∨d=clr1 x)→d∈out∨∃ y∈x::l,d=clr1 y:=fun hd hk=>by
   rcases clrGo_mem hd with h | ⟨y,hy,h⟩
   ·rcases hk h with h | h
    ·exact .inl h
    ·exact .inr ⟨x,by simp,h⟩
   ·exact .inr ⟨y,by simp [hy],h⟩
  split at h
  ·exact fin_ h .inl
  ·split at h
   ·exact fin_ h .inl
   ·exact fin_ h fun hm=>by
     rcases List.mem_append.1 hm with h | h
     ·exact .inl h
     ·exact .inr (List.mem_singleton.1 h)
theorem atts_cut {l:List api_FD} {s:Int} (hl:FdOK l) (hs:U32 s) {i:Nat} (h:(atts (clearF (cutF l s))).testBit i=true):(atts l).testBit i=true∧(sN s).testBit i=false:=by
 rw [atts_bit,List.any_eq_true] at h
 obtain ⟨d,hd,h⟩:=h
 rcases clrGo_mem hd with hd | ⟨x,hx,rfl⟩
 ·exact absurd hd List.not_mem_nil
 ·have hxo:=cut_ok hl hs x hx
  obtain ⟨y,hy,rfl⟩:=List.mem_map.1 hx
  have hy':=hl y hy
  have hb:(sN (bAndNot .u32 y.Lhs s)).testBit i=true∨(sN (bAndNot .u32 y.Rhs s)).testBit i=true:=by
   rw [Bool.or_eq_true] at h
   rcases h with h | h
   ·exact .inl h
   ·right
    have:=andNot_bit hxo.2 hxo.1 (i:=i)
    have h:(sN (bAndNot .u32 (bAndNot .u32 y.Rhs s) (bAndNot .u32 y.Lhs s))).testBit i=true:=h
    rw [this,Bool.and_eq_true] at h
    exact h.1
  rw [andNot_bit hy'.1 hs,andNot_bit hy'.2 hs] at hb
  rw [atts_bit,List.any_eq_true]
  rcases hb with hb | hb
  ·simp only [Bool.and_eq_true,Bool.not_eq_true'] at hb
   exact ⟨⟨y,hy,by rw [hb.1];rfl⟩,hb.2⟩
  ·simp only [Bool.and_eq_true,Bool.not_eq_true'] at hb
   exact ⟨⟨y,hy,by rw [hb.1,Bool.or_true]⟩,hb.2⟩
theorem nz_bit {x:Nat} (h:x≠0):∃ i,x.testBit i=true:=let ⟨i,h1,_⟩:=least_bit h;⟨i,h1⟩
theorem sN_nz {x:Int} (hx:U32 x) (h:x≠0):sN x≠0:=fun h0=>h (by rw [hx.eq,h0];rfl)
theorem poss_hit {l:List api_FD} (hl:FdOK l) (hc:IsClr l) {x:api_Step} (hx:StepOK x) (h:possF l x=true):∃ i,(atts l).testBit i=true∧(sN (bOr .u32 x.First x.Second)).testBit i=true:=by
 have hit:∀ {i:Nat} {d:api_FD},d∈l→((sN d.Lhs).testBit i || (sN d.Rhs).testBit i)=true→(atts l).testBit i=true:=fun hd hb=>by
  rw [atts_bit,List.any_eq_true]
  exact ⟨_,hd,hb⟩
 unfold possF at h
 split at h
 ·simp only [Bool.and_eq_true,decide_eq_true_eq] at h
  obtain ⟨h0,h1,h2,h3⟩:=h
  have hne:sN x.First≠0:=fun hz=>by
   rw [hz] at h1
   unfold szN at h1
   rw [bitsOf_zero] at h1
   cases h1
  obtain ⟨i,hi⟩:=nz_bit hne
  obtain ⟨d,hd⟩:∃ d,d∈l:=by
   cases l with
   | nil=>exact absurd h0 (Nat.lt_irrefl 0)
   | cons d l=>exact ⟨d,by simp⟩
  refine ⟨i,hit hd ?_,by rw [or_bit hx.1 hx.2,hi];rfl⟩
  have:=List.all_eq_true.1 h3 d hd
  rw [Bool.or_self] at this
  unfold subI at this
  rw [sub_iff.1 (of_decide_eq_true this) i hi];rfl
 ·split at h
  ·simp only [Bool.and_eq_true,decide_eq_true_eq] at h
   obtain ⟨h1,h2,h3⟩:=h
   unfold leftF at h1
   rw [List.any_eq_true] at h1
   obtain ⟨d,hd,h1⟩:=h1
   have h1:=of_decide_eq_true h1
   obtain ⟨i,hi⟩:=nz_bit (sN_nz (hl d hd).2 (hc.1 d hd).2)
   refine ⟨i,hit hd (by rw [hi,Bool.or_true]),?_⟩
   rw [or_bit hx.1 hx.2,h2]
   have hcl:=cloN_clo (l:=l) (s:=0) (fun d hd=>(hl d hd).2.lt) (by decide)
   have:(sN (cloI l 0)).testBit i=true:=by
    unfold cloI
    rw [sN_nat]
    exact hcl d hd (fun j hj=>by rw [h1] at hj;rw [show sN 0=0 from rfl,Nat.zero_testBit] at hj;cases hj) i hi
   rw [this];rfl
  ·split at h
   ·simp only [Bool.and_eq_true,Bool.not_eq_true',decide_eq_false_iff_not] at h
    obtain ⟨h1,h2,h3,_⟩:=h
    have one:∀ {s:Int},U32 s→s≠0→leftF l s=true→(∀ i,(sN s).testBit i=true→(sN (bOr .u32 x.First x.Second)).testBit i=true)→∃ i,(atts l).testBit i=true∧(sN (bOr .u32 x.First x.Second)).testBit i=true:=fun hs h0 hlf hk=>by
     unfold leftF at hlf
     rw [List.any_eq_true] at hlf
     obtain ⟨d,hd,h1⟩:=hlf
     have h1:=of_decide_eq_true h1
     obtain ⟨i,hi⟩:=nz_bit (sN_nz hs h0)
     exact ⟨i,hit hd (by rw [h1,hi];rfl),hk i hi⟩
    by_cases h0:x.First=0
    ·refine one hx.2 (fun hz=>h1 (by rw [h0,hz])) h3 fun i hi=>?_
     rw [or_bit hx.1 hx.2,hi,Bool.or_true]
    ·refine one hx.1 h0 h2 fun i hi=>?_
     rw [or_bit hx.1 hx.2,hi];rfl
   ·cases h
theorem or_int' {a b:Int} (ha:U32 a) (hb:U32 b):U32 (bOr .u32 a b):=by
 rw [ha.eq,hb.eq,bOr_nat (k:=.u32) ha.top hb.top]
 exact U32.of (Nat.or_lt_two_pow ha.lt hb.lt)
def stepL (l:List api_FD):List api_FD:=clearF (cutF l (bOr .u32 (nextF l).1.First (nextF l).1.Second))
theorem step_less {l:List api_FD} (hl:FdOK l) (hc:IsClr l) (h:(nextF l).2=true):szN (atts (stepL l))<szN (atts l):=by
 obtain ⟨h1,h2⟩:=next_is hl h
 have hs:=or_int' h2.1 h2.2
 obtain ⟨i,g1,g2⟩:=poss_hit hl hc h2 h1
 refine szN_lt (fun j hj=>(atts_cut hl hs hj).1) (fun he=>?_) (atts_lt hl)
 have:(atts (stepL l)).testBit i=true:=by rw [he];exact g1
 rw [(atts_cut hl hs this).2] at g2
 cases g2
theorem stepL_ok {l:List api_FD} (hl:FdOK l) (h:(nextF l).2=true):FdOK (stepL l)∧IsClr (stepL l)∧(stepL l).length≤l.length:=by
 obtain ⟨h1,h2⟩:=next_is hl h
 have hs:=or_int' h2.1 h2.2
 refine ⟨clear_ok (cut_ok hl hs),clear_clr (cut_ok hl hs),?_⟩
 have:=clear_len (cut_ok hl hs)
 have e:(cutF l (bOr .u32 (nextF l).1.First (nextF l).1.Second)).length=l.length:=by unfold cutF;rw [List.length_map]
 unfold stepL
 omega
def chainK:Nat→List api_FD→List api_Step×List api_FD
 | 0,l=>([],l)
 | k+1,l=>if (nextF l).2=true then ((nextF l).1::(chainK k (stepL l)).1,(chainK k (stepL l)).2) else ([],l)
def chainF (n:Int) (l:List api_FD):List api_Step×List api_FD×Int:=
 if fdsE n l=0 then ((chainK 40 (clearF l)).1,(chainK 40 (clearF l)).2,0) else ([],[],fdsE n l)
end Go.Own
namespace Go.Own
end Go.Own
