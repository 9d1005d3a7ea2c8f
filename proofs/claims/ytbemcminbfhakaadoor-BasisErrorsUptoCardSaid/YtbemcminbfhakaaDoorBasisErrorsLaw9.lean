/- What the functions that the law reaches answer. No conditions. -/
import Derived.Test.YtbemcminbfhakaaDoorBasisErrorsLaw2
import Derived.Test.YtbemcminbfhakaaDoorBasisErrorsLaw4
import Derived.Test.YtbemcminbfhakaaDoorBasisErrorsLaw6
set_option linter.all false
namespace Go.Own
theorem drossref02_Sub.spec {a b:Nat} (ha:a<2^32) (hb:b<2^32):drossref02_Sub.C a b (decide (a &&& b=a)):=by
 obtain ⟨r,h1,h2⟩:=drossref02_Sub.enter a b (fun r=>r=decide (a &&& b=a)) (by
  rw [bAnd_nat (k:=.u32) (by simpa [top] using ha) (by simpa [top] using hb)]
  by_cases h:a &&& b=a
  ·simp [h]
  ·have:¬ ((a &&& b:Nat):Int)=(a:Int):=by omega
   simp [h,this])
 rw [← h1];exact h2
end Go.Own
namespace Go.Own
namespace drossref02_Full
theorem loop {k:Nat} {φ:Int→Prop} (h:φ (fullN k)):∀ (m i:Nat),i+m=min k 32→L1 k ((2^i-1:Nat):Int) i φ
 | 0,i,hi=>by
  apply L1_step
  have e:((2^i-1:Nat):Int)=(fullN k:Int):=by unfold fullN;rw [← hi,Nat.add_zero]
  rw [e]
  split
  ·rw [if_neg (by omega)];exact h
  ·exact h
 | m+1,i,hi=>by
  apply L1_step
  rw [if_pos (by omega),if_pos (by omega)]
  refine ⟨by omega,?_⟩
  have hp:2^(i+1)≤2^32:=Nat.pow_le_pow_right (by decide) (by omega)
  have h2:0<2^i:=Nat.pos_of_ne_zero (by simp)
  rw [Nat.pow_succ] at hp
  rw [shl1_nat (k:=.u32) (by simp only [top];omega),bOr_nat (k:=.u32) (by simp only [top];omega) (by simp only [top];omega),wrap_succ (by omega)]
  have e:(2^i-1) ||| 2^i=2^(i+1)-1:=by
   apply Nat.eq_of_testBit_eq
   intro j
   rw [Nat.testBit_or,Nat.testBit_two_pow_sub_one,Nat.testBit_two_pow,Nat.testBit_two_pow_sub_one]
   by_cases h1:j<i
   ·have:j<i+1:=by omega
    simp [h1,this]
   ·by_cases h3:i=j
    ·subst h3;simp
    ·have:¬ j<i+1:=by omega
     simp [h1,h3,this]
  rw [e]
  exact loop h m (i+1) (by omega)
theorem spec {k:Nat}:C k (fullN k):=by
 obtain ⟨r,h1,h2⟩:=enter k (fun r=>r=(fullN k:Int)) (loop (φ:=fun r=>r=(fullN k:Int)) rfl (min k 32) 0 (by omega))
 rw [← h1];exact h2
end drossref02_Full
end Go.Own
namespace Go.Own
def FdOK (l:List api_FD):Prop:=∀ d∈l,U32 d.Lhs∧U32 d.Rhs
def inU (n:Nat) (l r:Int):Bool:=decide (sN l<2^n)&&decide (sN r<2^n)
theorem in_or {n:Nat} {l r:Int} (hl:U32 l) (hr:U32 r):(shrw .u32 (bOr .u32 l r) (n:Int)=0)↔inU n l r=true:=by
 rw [hl.eq,hr.eq,bOr_nat hl.top hr.top,shrw_nat (Nat.or_lt_two_pow hl.top hr.top)]
 unfold inU
 rw [Bool.and_eq_true,decide_eq_true_iff,decide_eq_true_iff]
 have e1:sN (sN l:Int)=sN l:=by unfold sN;omega
 have e2:sN (sN r:Int)=sN r:=by unfold sN;omega
 rw [e1,e2,← or_lt,← div_zero]
 omega
theorem sub_full {a n:Nat} (ha:a<2^32) (hn:n≤32):(a &&& fullN n=a)↔a<2^n:=by
 rw [sub_iff,lt_iff]
 constructor
 ·intro h i hi
  have:=h i hi
  rw [fullN_bit,decide_eq_true_iff] at this
  omega
 ·intro h i hi
  rw [fullN_bit,decide_eq_true_iff]
  have:=h i hi
  omega
theorem sub_in {n:Nat} {x:Int} (hn:n≤32) (hx:U32 x):drossref02_Sub.C x (fullN n) (decide (sN x<2^n)):=by
 have:=drossref02_Sub.spec (a:=sN x) (b:=fullN n) hx.lt fullN_lt
 rw [← hx.eq] at this
 have e:decide (sN x &&& fullN n=sN x)=decide (sN x<2^n):=by rw [decide_eq_decide];exact sub_full hx.lt hn
 rw [e] at this;exact this
def fdsE (n:Int) (l:List api_FD):Int:=if n<0∨16<n then 7 else if 64<l.length then 3 else if (l.all fun d=>inU n.toNat d.Lhs d.Rhs)=true then 0 else 1
theorem all_goal {α:Type} {l:List α} {p:α→Bool} {L:Int→Prop} {φ:Int→Prop} (stop:φ 0→L (l.length:Int))
  (step:∀ (k:Nat) a,l[k]? = some a→k<l.length→(if p a=true then L ((k+1:Nat):Int) else φ 1)→L k) (h:φ (if l.all p=true then 0 else 1)):L 0:=
 all_loop (l:=l) (p:=p) (L:=L) (φ:=fun b=>φ (if b=true then 0 else 1)) (fun h=>stop (by simpa using h)) (fun k a ha hk h=>step k a ha hk (by simpa using h)) h
theorem closure_Valid.spec {n:Int} {l:List api_FD} (hl:FdOK l):closure_Valid.C n l (fdsE n l):=by
 obtain ⟨r,h1,h2⟩:=closure_Valid.enter n l (fun r=>r=fdsE n l) (by
  by_cases a:n<0∨16<n
  ·have e:fdsE n l=7:=if_pos a
   rw [e]
   by_cases b:n<0
   ·rw [if_pos b]
   ·rw [if_neg b,if_pos (by omega)]
  ·rw [if_neg (by omega),if_neg (by omega)]
   by_cases b:64<l.length
   ·have e:fdsE n l=3:=by unfold fdsE;rw [if_neg a,if_pos b]
    rw [e,if_pos (by omega)]
   ·have e:fdsE n l=if (l.all fun d=>inU n.toNat d.Lhs d.Rhs)=true then 0 else 1:=by unfold fdsE;rw [if_neg a,if_neg b]
    rw [e,if_neg (by omega)]
    ·obtain ⟨m,rfl⟩:∃ m:Nat,n=m:=⟨n.toNat,by omega⟩
     refine all_goal (l:=l) (p:=fun d=>inU m d.Lhs d.Rhs) (L:=fun i=>closure_Valid.L1 m l i _) (φ:=fun r=>r=_) ?_ ?_ rfl
     ·intro h;apply closure_Valid.L1_step;rw [if_neg (by omega)];exact h
     ·intro k d hd hk h
      apply closure_Valid.L1_step
      rw [if_pos (by omega)]
      refine ⟨d,lget_of hd,by omega,?_⟩
      have hd':=hl d (List.mem_of_getElem? hd)
      have e:=in_or (n:=m) hd'.1 hd'.2
      rw [wrap_succ (by omega)]
      split
      ·rename_i hh;rw [if_pos (e.1 hh)] at h;exact h
      ·rename_i hh;rw [if_neg (fun h3=>hh (e.2 h3))] at h;exact h)
 rw [← h1];exact h2
theorem drossref09_Valid.spec {n:Int} {l:List api_FD} (hl:FdOK l):drossref09_Valid.C n l (fdsE n l):=by
 obtain ⟨r,h1,h2⟩:=drossref09_Valid.enter n l (fun r=>r=fdsE n l) (by
  by_cases a:n<0∨16<n
  ·have e:fdsE n l=7:=if_pos a
   rw [e]
   by_cases b:n<0
   ·rw [if_pos b]
   ·rw [if_neg b,if_pos (by omega)]
  ·rw [if_neg (by omega),if_neg (by omega)]
   by_cases b:64<l.length
   ·have e:fdsE n l=3:=by unfold fdsE;rw [if_neg a,if_pos b]
    rw [e,if_pos (by omega)]
   ·have e:fdsE n l=if (l.all fun d=>inU n.toNat d.Lhs d.Rhs)=true then 0 else 1:=by unfold fdsE;rw [if_neg a,if_neg b]
    rw [e,if_neg (by omega)]
    ·obtain ⟨m,rfl⟩:∃ m:Nat,n=m:=⟨n.toNat,by omega⟩
     refine ⟨_,drossref02_Full.spec,?_⟩
     refine all_goal (l:=l) (p:=fun d=>inU m d.Lhs d.Rhs) (L:=fun i=>drossref09_Valid.L1 l (fullN m) i _) (φ:=fun r=>r=_) ?_ ?_ rfl
     ·intro h;apply drossref09_Valid.L1_step;rw [if_neg (by omega)];exact h
     ·intro k d hd hk h
      apply drossref09_Valid.L1_step
      rw [if_pos (by omega)]
      have hd':=hl d (List.mem_of_getElem? hd)
      refine ⟨d,lget_of hd,_,sub_in (by omega) hd'.1,?_⟩
      rw [wrap_succ (by omega)]
      unfold inU at h
      split
      ·rename_i hh
       refine ⟨_,sub_in (by omega) hd'.2,?_⟩
       split
       ·rename_i h3;rw [if_pos (by rw [hh,h3];rfl)] at h;exact h
       ·rename_i h3;rw [if_neg (by rw [hh,Bool.true_and];exact h3)] at h;exact h
      ·rename_i hh;rw [if_neg (by rw [Bool.eq_false_iff.2 hh];simp)] at h;exact h)
 rw [← h1];exact h2
theorem fdsE_n {n:Int} {l:List api_FD} (h:fdsE n l=0):0≤n∧n≤16:=by
 unfold fdsE at h
 split at h
 ·cases h
 ·omega
end Go.Own
namespace Go.Own
def MvdOK (l:List api_MVD):Prop:=∀ d∈l,U32 d.Lhs∧U32 d.Rhs
def basE (n:Int) (l:List api_FD) (m:List api_MVD):Int:=if fdsE n l=0 then (if 64<m.length then 3 else if (m.all fun d=>inU n.toNat d.Lhs d.Rhs)=true then 0 else 1) else fdsE n l
theorem basis_Valid.spec {n:Int} {l:List api_FD} {m:List api_MVD} (hl:FdOK l) (hm:MvdOK m):basis_Valid.C n l m (basE n l m):=by
 obtain ⟨r,h1,h2⟩:=basis_Valid.enter n l m (fun r=>r=basE n l m) (by
  refine ⟨_,closure_Valid.spec hl,?_⟩
  unfold basE
  split
  ·rename_i h0
   have hn:=fdsE_n h0
   split
   ·rw [if_pos (by omega)]
   ·rw [if_neg (by omega)]
    obtain ⟨q,rfl⟩:∃ q:Nat,n=q:=⟨n.toNat,by omega⟩
    refine all_goal (l:=m) (p:=fun d=>inU q d.Lhs d.Rhs) (L:=fun i=>basis_Valid.L1 q m i _) (φ:=fun r=>r=_) ?_ ?_ rfl
    ·intro h;apply basis_Valid.L1_step;rw [if_neg (by omega)];exact h
    ·intro k d hd hk h
     apply basis_Valid.L1_step
     rw [if_pos (by omega)]
     refine ⟨d,lget_of hd,by omega,?_⟩
     have hd':=hm d (List.mem_of_getElem? hd)
     have e:=in_or (n:=q) hd'.1 hd'.2
     rw [wrap_succ (by omega)]
     split
     ·rename_i hh;rw [if_pos (e.1 hh)] at h;exact h
     ·rename_i hh;rw [if_neg (fun h3=>hh (e.2 h3))] at h;exact h
  ·rfl)
 rw [← h1];exact h2
theorem drossref13_within.spec {n:Nat} {x:Int} (hn:n≤32) (hx:U32 x):drossref13_within.C n x (decide (sN x<2^n)):=by
 obtain ⟨r,h1,h2⟩:=drossref13_within.enter n x (fun r=>r=decide (sN x<2^n)) ⟨_,drossref02_Full.spec,_,sub_in hn hx,rfl⟩
 rw [← h1];exact h2
theorem drossref13_Valid.spec {n:Int} {l:List api_FD} {m:List api_MVD} (hl:FdOK l) (hm:MvdOK m):drossref13_Valid.C n l m (basE n l m):=by
 obtain ⟨r,h1,h2⟩:=drossref13_Valid.enter n l m (fun r=>r=basE n l m) (by
  refine ⟨_,drossref09_Valid.spec hl,?_⟩
  unfold basE
  split
  ·rename_i h0
   have hn:=fdsE_n h0
   split
   ·rw [if_pos (by omega)]
   ·rw [if_neg (by omega)]
    obtain ⟨q,rfl⟩:∃ q:Nat,n=q:=⟨n.toNat,by omega⟩
    refine all_goal (l:=m) (p:=fun d=>inU q d.Lhs d.Rhs) (L:=fun i=>drossref13_Valid.L1 q m i _) (φ:=fun r=>r=_) ?_ ?_ rfl
    ·intro h;apply drossref13_Valid.L1_step;rw [if_neg (by omega)];exact h
    ·intro k d hd hk h
     apply drossref13_Valid.L1_step
     rw [if_pos (by omega)]
     have hd':=hm d (List.mem_of_getElem? hd)
     refine ⟨d,lget_of hd,_,drossref13_within.spec (by omega) hd'.1,?_⟩
     rw [wrap_succ (by omega)]
     unfold inU at h
     split
     ·rename_i hh
      refine ⟨_,drossref13_within.spec (by omega) hd'.2,?_⟩
      split
      ·rename_i h3;rw [if_pos (by rw [hh,h3];rfl)] at h;exact h
      ·rename_i h3;rw [if_neg (by rw [hh,Bool.true_and];exact h3)] at h;exact h
     ·rename_i hh;rw [if_neg (by rw [Bool.eq_false_iff.2 hh];simp)] at h;exact h
  ·rfl)
 rw [← h1];exact h2
end Go.Own
namespace Go.Own
end Go.Own
namespace Go.Own
end Go.Own
namespace Go.Own
end Go.Own
