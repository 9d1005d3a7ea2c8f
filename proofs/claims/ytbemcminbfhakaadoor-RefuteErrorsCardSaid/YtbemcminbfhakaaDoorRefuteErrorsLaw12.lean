/- What the functions that the law reaches answer. No conditions. -/
import Derived.Test.YtbemcminbfhakaaDoorRefuteErrorsLaw5
import Derived.Test.YtbemcminbfhakaaDoorRefuteErrorsLaw10
import Derived.Test.YtbemcminbfhakaaDoorRefuteErrorsLaw11
import Derived.Test.YtbemcminbfhakaaDoorRefuteErrorsLaw7
import Derived.Test.YtbemcminbfhakaaDoorRefuteErrorsLaw2
import Derived.Test.YtbemcminbfhakaaDoorBase1
import Derived.Test.YtbemcminbfhakaaDoorOwn25
import Derived.Test.YtbemcminbfhakaaDoorRefuteErrorsLaw4
set_option linter.all false
namespace Go.Own
end Go.Own
namespace Go.Own
namespace slices_Compact_sapi_Set_api_Set
end slices_Compact_sapi_Set_api_Set
end Go.Own
namespace Go.Own
end Go.Own
namespace Go.Own
end Go.Own
namespace Go.Own
end Go.Own
namespace Go.Own
namespace closure_Close
end closure_Close
namespace drossref09_Close
end drossref09_Close
theorem full_small {n:Nat} (hn:n≤16):fullN n=2^n-1:=by unfold fullN;rw [Nat.min_eq_left (by omega)]
end Go.Own
namespace Go.Own
theorem full_spec {n:Nat} (hn:n≤16):drossref02_Full.C n ((2^n-1:Nat):Int):=by
 rw [← full_small hn];exact drossref02_Full.spec
end Go.Own
namespace Go.Own
end Go.Own
namespace Go.Own
end Go.Own
namespace Go.Own
end Go.Own
namespace Go.Own
namespace refute_build
end refute_build
theorem refute_within.spec {n:Nat} {l r:Int} (hl:U32 l) (hr:U32 r):refute_within.C n (bOr .u32 l r) (inU n l r):=by
 obtain ⟨q,h1,h2⟩:=refute_within.enter n (bOr .u32 l r) (fun q=>q=inU n l r) ⟨by omega,by
  have e0:bOr .u32 l r=((sN l ||| sN r:Nat):Int):=by
   conv=>lhs;rw [hl.eq,hr.eq]
   exact bOr_nat hl.top hr.top
  have hlt:sN l ||| sN r<2^32:=Nat.or_lt_two_pow hl.lt hr.lt
  rw [e0]
  have e1:IntKind.wrap .u64 ((sN l ||| sN r:Nat):Int)=((sN l ||| sN r:Nat):Int):=by
   unfold IntKind.wrap;simp only [IntKind.bits,IntKind.signed,Bool.false_and,Bool.false_eq_true,if_false];omega
  rw [e1,shrw_nat (k:=.u64) (Nat.lt_trans hlt (by decide))]
  refine Bool.eq_iff_iff.2 ?_
  rw [beq_iff_eq]
  unfold inU
  rw [Bool.and_eq_true,decide_eq_true_iff,decide_eq_true_iff,← or_lt,← div_zero]
  omega⟩
 rw [← h1];exact h2
theorem drossref20_within.spec {n:Nat} {l r:Int} (hn:n≤16) (hl:U32 l) (hr:U32 r):drossref20_within.C n l r (inU n l r):=by
 obtain ⟨q,h1,h2⟩:=drossref20_within.enter n l r (fun q=>q=inU n l r) (by
  have e0:bOr .u32 l r=((sN l ||| sN r:Nat):Int):=by
   conv=>lhs;rw [hl.eq,hr.eq]
   exact bOr_nat hl.top hr.top
  have hlt:sN l ||| sN r<2^32:=Nat.or_lt_two_pow hl.lt hr.lt
  have hs:=sub_in (n:=n) (x:=((sN l ||| sN r:Nat):Int)) (by omega) (U32.of hlt)
  rw [full_small hn] at hs
  refine ⟨_,full_spec hn,_,by rw [e0];exact hs,?_⟩
  refine Bool.eq_iff_iff.2 ?_
  rw [decide_eq_true_iff,sN_nat]
  unfold inU
  rw [Bool.and_eq_true,decide_eq_true_iff,decide_eq_true_iff,← or_lt])
 rw [← h1];exact h2
namespace drossref20_FD
end drossref20_FD
end Go.Own
namespace Go.Own
def limE (n:Int) (l:List api_FD) (m:List api_MVD) (a b:Int):Int:=if basE n l m=0 then (if 8<n then 3 else if inU n.toNat a b=true then 0 else 1) else basE n l m
theorem basE_n {n:Int} {l:List api_FD} {m:List api_MVD} (h:basE n l m=0):0≤n∧n≤16:=by
 unfold basE at h
 split at h
 ·rename_i h0;exact fdsE_n h0
 ·rename_i h0;exact absurd h h0
theorem refute_limits.spec {n:Int} {l:List api_FD} {m:List api_MVD} {a b:Int} (hl:FdOK l) (hm:MvdOK m) (ha:U32 a) (hb:U32 b):refute_limits.C n l m a b (limE n l m a b):=by
 obtain ⟨r,h1,h2⟩:=refute_limits.enter n l m a b (fun r=>r=limE n l m a b) (by
  refine ⟨_,basis_Valid.spec hl hm,?_⟩
  unfold limE
  by_cases h0:basE n l m=0
  ·rw [if_pos h0,if_pos h0]
   obtain ⟨q,rfl⟩:∃ q:Nat,n=q:=⟨n.toNat,by have:=basE_n h0;omega⟩
   by_cases h8:8<(q:Int)
   ·rw [if_pos h8,if_pos h8]
   ·rw [if_neg h8,if_neg h8]
    refine ⟨_,refute_within.spec ha hb,?_⟩
    rw [Int.toNat_natCast]
    split<;>rfl
  ·rw [if_neg h0,if_neg h0])
 rw [← h1];exact h2
theorem drossref20_Error.spec {n:Int} {l:List api_FD} {m:List api_MVD} {a b:Int} (hl:FdOK l) (hm:MvdOK m) (ha:U32 a) (hb:U32 b):drossref20_Error.C n l m a b (limE n l m a b):=by
 obtain ⟨r,h1,h2⟩:=drossref20_Error.enter n l m a b (fun r=>r=limE n l m a b) (by
  refine ⟨_,drossref13_Valid.spec hl hm,?_⟩
  unfold limE
  by_cases h0:basE n l m=0
  ·rw [if_pos h0,if_pos h0]
   obtain ⟨q,rfl⟩:∃ q:Nat,n=q:=⟨n.toNat,by have:=basE_n h0;omega⟩
   by_cases h8:8<(q:Int)
   ·rw [if_pos h8,if_pos h8]
   ·rw [if_neg h8,if_neg h8]
    refine ⟨_,drossref20_within.spec (by omega) ha hb,?_⟩
    rw [Int.toNat_natCast]
    split<;>rfl
  ·rw [if_neg h0,if_neg h0])
 rw [← h1];exact h2
def emptyTab:api_Table:=⟨(⟨#[]⟩:ByteArray),[],[]⟩
theorem refute_Mixed.fails {n:Int} {l:List api_FD} {m:List api_MVD} {g:api_FD} (hl:FdOK l) (hm:MvdOK m) (ha:U32 g.Lhs) (hb:U32 g.Rhs) (h:limE n l m g.Lhs g.Rhs≠0):refute_Mixed.C n l m g (emptyTab,limE n l m g.Lhs g.Rhs):=by
 obtain ⟨r,h1,h2⟩:=refute_Mixed.enter n l m g (fun r=>r=(emptyTab,limE n l m g.Lhs g.Rhs)) (by
  refine ⟨_,refute_limits.spec hl hm ha hb,?_⟩
  rw [if_neg h];rfl)
 rw [← h1];exact h2
theorem refute_MVD.fails {n:Int} {l:List api_FD} {m:List api_MVD} {g:api_MVD} (hl:FdOK l) (hm:MvdOK m) (ha:U32 g.Lhs) (hb:U32 g.Rhs) (h:limE n l m g.Lhs g.Rhs≠0):refute_MVD.C n l m g (emptyTab,limE n l m g.Lhs g.Rhs):=by
 obtain ⟨r,h1,h2⟩:=refute_MVD.enter n l m g (fun r=>r=(emptyTab,limE n l m g.Lhs g.Rhs)) (by
  refine ⟨_,refute_limits.spec hl hm ha hb,?_⟩
  rw [if_neg h];rfl)
 rw [← h1];exact h2
namespace drosslaw20_RefuteErrors
theorem again {φ:Bool→Prop} (h:φ true):L1 φ:=L1_step φ ⟨true,drosslaw20_awake.spec,h⟩
def mvL (l:List api_FD):List api_MVD:=l.map fun d=>⟨d.Lhs,d.Rhs⟩
theorem mvL_ok {l:List api_FD} (h:FdOK l):MvdOK (mvL l):=fun d hd=>by
 obtain ⟨x,hx,rfl⟩:=List.mem_map.1 hd
 exact h x hx
theorem main {n:Int} {x:List api_FD×List api_FD} {g:api_FD} (hl:FdOK x.1) (hm:FdOK x.2) (hlen:x.2.length≤70) (ha:U32 g.Lhs) (hb:U32 g.Rhs):L2 n x g [] ((0:Nat):Int) (fun r=>r=true):=by
 have go:∀ (r:List api_FD) (k:Nat) (out:List api_MVD),x.2.drop k=r→out.length≤k→out++mvL r=mvL x.2→L2 n x g out (k:Int) (fun r=>r=true):=by
  intro r
  induction r with
  | nil=>
   intro k out hd hk h
   have:=drop_ge hd
   apply L2_step
   rw [if_neg (by omega)]
   have h:out=mvL x.2:=by simpa [mvL] using h
   subst h
   have hM:=mvL_ok hm
   refine ⟨_,drossref20_Error.spec hl hM ha hb,?_⟩
   by_cases h0:limE n x.1 (mvL x.2) g.Lhs g.Rhs=0
   ·rw [if_pos h0]
   ·rw [if_neg h0]
    refine ⟨_,refute_Mixed.fails hl hM ha hb h0,_,refute_MVD.fails (g:=⟨g.Lhs,g.Rhs⟩) hl hM ha hb h0,?_⟩
    rw [if_pos rfl,if_pos rfl]
    rfl
  | cons a r ih=>
   intro k out hd hk h
   have hlt:=drop_lt hd
   apply L2_step
   rw [if_pos (by omega)]
   refine ⟨a,lget_drop hd,by omega,?_⟩
   rw [wrap_succ (by omega)]
   exact ih (k+1) _ (drop_next hd) (by rw [List.length_append];simp only [List.length_cons,List.length_nil];omega) (by rw [List.append_assoc];exact h)
 exact go x.2 0 [] rfl (Nat.le_refl 0) rfl
theorem spec (n:Int) (x:List api_FD×List api_FD) (g:api_FD) (hl:FdOK x.1) (hm:FdOK x.2) (ha:U32 g.Lhs) (hb:U32 g.Rhs):C n x g true:=by
 obtain ⟨r,h1,h2⟩:=enter n x g (fun r=>r=true) (by
  refine ⟨true,drosslaw20_awake.spec,?_⟩
  rw [if_pos rfl]
  by_cases h70:70<(x.1.length:Int)
  ·rw [if_pos h70];exact again rfl
  ·rw [if_neg h70]
   by_cases h71:70<(x.2.length:Int)
   ·rw [if_pos h71];exact again rfl
   ·rw [if_neg h71]
    exact main hl hm (by omega) ha hb)
 subst h1;exact h2
theorem law {xs:List D} (hx:TyAll env.P drosslaw20_RefuteErrors_K drosslaw20_RefuteErrors_T xs):Ret env drosslaw20_RefuteErrors_F xs (.lit (.bool true)) []:=
 drosslaw20_RefuteErrors_of (fun x0 x1 x2 h0 h1 h2=>spec x0 x1 x2 (fun d hd=>⟨u32_of (h1.1.2 d hd).1,u32_of (h1.1.2 d hd).2⟩) (fun d hd=>⟨u32_of (h1.2.2 d hd).1,u32_of (h1.2.2 d hd).2⟩) (u32_of h2.1) (u32_of h2.2)) hx
end drosslaw20_RefuteErrors
end Go.Own
