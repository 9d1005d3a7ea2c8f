/- What the functions that the law reaches answer. No conditions. -/
import Derived.Test.YtbemcminbfhakaaDoorBasisErrorsLaw11
import Derived.Test.YtbemcminbfhakaaDoorOwn34
import Derived.Test.YtbemcminbfhakaaDoorBasisErrorsLaw6
import Derived.Test.YtbemcminbfhakaaDoorBasisErrorsLaw9
import Derived.Test.YtbemcminbfhakaaDoorBasisErrorsLaw3
set_option linter.all false
namespace Go.Own
def depL (n:Nat) (L:List drossref09_Dep):List api_FD:=L.map fun x=>{ Lhs:=((sN x.L &&& (2^n-1):Nat):Int),Rhs:=((sN x.R &&& (2^n-1):Nat):Int) }
def DepOK (L:List drossref09_Dep):Prop:=∀ x∈L,(0≤x.L∧x.L<256)∧0≤x.R∧x.R<256
theorem dep_and {x:Int} (h:0≤x∧x<256) {n:Nat} (hn:n≤16):bAnd .u32 (IntKind.wrap .u32 x) ((2^n-1:Nat):Int)=((sN x &&& (2^n-1):Nat):Int):=by
 have hp:=pow16 hn
 have e:x=((sN x:Nat):Int):=by unfold sN;omega
 have e2:IntKind.wrap .u32 x=((sN x:Nat):Int):=by
  conv=>lhs;rw [e]
  exact wrap_top (k:=.u32) (by simp only [top];unfold sN;omega)
 rw [e2]
 exact bAnd_nat (k:=.u32) (by simp only [top];unfold sN;omega) (by simp only [top];omega)
theorem and_pow {x n:Nat}:x &&& (2^n-1)<2^n:=by
 have:=Nat.and_le_right (n:=x) (m:=2^n-1)
 have:0<2^n:=Nat.pow_pos (by omega)
 omega
theorem drossref09_List.spec {n:Nat} {L:List drossref09_Dep} (hn:n≤16) (hL:DepOK L) (hlen:L.length≤4000000):drossref09_List.C n L (depL n L):=by
 obtain ⟨r,h1,h2⟩:=drossref09_List.enter n L (fun r=>r=depL n L) (by
  refine ⟨_,full_spec hn,?_⟩
  have:∀ (r:List drossref09_Dep) (k:Nat),L.drop k=r→k≤L.length→drossref09_List.L1 L ((2^n-1:Nat):Int) (depL n (L.take k)) k (fun r=>r=depL n L):=by
   intro r
   induction r with
   | nil=>
    intro k hd hk
    have:=drop_ge hd
    apply drossref09_List.L1_step
    rw [if_neg (by omega),List.take_of_length_le (by omega)]
   | cons x r ih=>
    intro k hd hk
    have hlt:=drop_lt hd
    have hx:=hL x (List.mem_of_getElem? (drop_get hd))
    have next:=ih (k+1) (drop_next hd) (by omega)
    rw [List.take_add_one,drop_get hd,Option.toList_some] at next
    unfold depL at next
    rw [List.map_append,List.map_cons,List.map_nil] at next
    apply drossref09_List.L1_step
    rw [if_pos (by omega)]
    refine ⟨x,lget_drop hd,?_⟩
    rw [dep_and hx.1 hn,dep_and hx.2 hn,wrap_succ (by omega)]
    exact ⟨by unfold depL;rw [List.length_map,List.length_take];omega,next⟩
  exact this L 0 rfl (Nat.zero_le _))
 rw [← h1];exact h2
def depN (N:Int):Nat:=(N % 7).toNat
theorem depN_lt {N:Int}:depN N≤6:=by unfold depN;omega
theorem drossref09_Of.spec {d:drossref09_Deps} (hN:0≤d.N∧d.N<256) (hL:DepOK d.L) (hlen:d.L.length≤4000000):drossref09_Of.C d (((depN d.N:Nat):Int),depL (depN d.N) d.L,decide ((d.L.length:Int)≤6)):=by
 obtain ⟨r,h1,h2⟩:=drossref09_Of.enter d (fun r=>r=(((depN d.N:Nat):Int),depL (depN d.N) d.L,decide ((d.L.length:Int)≤6))) (by
  have e:IntKind.wrap .i64 (Int.tmod d.N 7)=((depN d.N:Nat):Int):=by
   rw [Int.tmod_eq_emod_of_nonneg hN.1]
   have:d.N % 7=((depN d.N:Nat):Int):=by unfold depN;omega
   rw [this]
   exact wrap_top (k:=.i64) (by simp only [top];have:=depN_lt (N:=d.N);omega)
  rw [e]
  exact ⟨_,drossref09_List.spec (by have:=depN_lt (N:=d.N);omega) hL hlen,rfl⟩)
 rw [← h1];exact h2
theorem wtLL_len:∀ (es:List (List D)),es.length≤wtLL es
 | []=>Nat.le_refl _
 | x::r=>by simp only [wtLL,List.length_cons];have:=wtLL_len r;omega
theorem depL_ok {n:Nat} {L:List drossref09_Dep} (hn:n≤16):FdOK (depL n L):=fun d hd=>by
 obtain ⟨x,_,rfl⟩:=List.mem_map.1 hd
 have hp:=pow16 hn
 exact ⟨U32.of (Nat.lt_of_lt_of_le and_pow (by omega)),U32.of (Nat.lt_of_lt_of_le and_pow (by omega))⟩
theorem depL_len {n:Nat} {L:List drossref09_Dep}:(depL n L).length=L.length:=by simp [depL]
end Go.Own
namespace Go.Own
def errS (n:Int) (l:List api_FD) (m:List api_MVD) (a b:Int):Int:=if basE n l m=0 then (if inU n.toNat a b=true then 0 else 1) else basE n l m
theorem basE_n {n:Int} {l:List api_FD} {m:List api_MVD} (h:basE n l m=0):0≤n∧n≤16:=by
 unfold basE at h
 split at h
 ·rename_i h0;exact fdsE_n h0
 ·rename_i h0;exact absurd h h0
theorem or_self {a:Int} (ha:U32 a):bOr .u32 a a=a:=by
 have:=bOr_nat (k:=.u32) ha.top ha.top
 rw [← ha.eq,Nat.or_self,← ha.eq] at this
 exact this
theorem inU_zero {n:Nat} {a:Int}:inU n a 0=inU n a a:=by
 unfold inU
 have:sN 0<2^n:=Nat.pow_pos (by omega)
 rw [decide_eq_true this,Bool.and_true,Bool.and_self]
theorem basis_check.spec {n:Int} {l:List api_FD} {m:List api_MVD} {a b:Int} (hl:FdOK l) (hm:MvdOK m) (ha:U32 a) (hb:U32 b):basis_check.C n l m (bOr .u32 a b) (errS n l m a b):=by
 obtain ⟨r,h1,h2⟩:=basis_check.enter n l m (bOr .u32 a b) (fun r=>r=errS n l m a b) (by
  refine ⟨_,basis_Valid.spec hl hm,?_⟩
  unfold errS
  by_cases h0:basE n l m=0
  ·rw [if_pos h0,if_pos h0]
   obtain ⟨q,rfl⟩:∃ q:Nat,n=q:=⟨n.toNat,by have:=basE_n h0;omega⟩
   refine ⟨by omega,?_⟩
   have e:=in_or (n:=q) ha hb
   rw [Int.toNat_natCast]
   by_cases h:inU q a b=true
   ·rw [if_pos (e.2 h),if_pos h]
   ·rw [if_neg (fun hh=>h (e.1 hh)),if_neg h]
  ·rw [if_neg h0,if_neg h0])
 rw [← h1];exact h2
theorem basis_check.one {n:Int} {l:List api_FD} {m:List api_MVD} {a:Int} (hl:FdOK l) (hm:MvdOK m) (ha:U32 a):basis_check.C n l m a (errS n l m a 0):=by
 have:=basis_check.spec (n:=n) hl hm ha ha
 rw [or_self ha] at this
 have e:errS n l m a a=errS n l m a 0:=by unfold errS;rw [inU_zero]
 rw [e] at this
 exact this
theorem drossref13_Error.spec {n:Int} {l:List api_FD} {m:List api_MVD} {a b:Int} (hl:FdOK l) (hm:MvdOK m) (ha:U32 a) (hb:U32 b):drossref13_Error.C n l m a b (errS n l m a b):=by
 obtain ⟨r,h1,h2⟩:=drossref13_Error.enter n l m a b (fun r=>r=errS n l m a b) (by
  refine ⟨_,drossref13_Valid.spec hl hm,?_⟩
  unfold errS
  by_cases h0:basE n l m=0
  ·rw [if_pos h0,if_pos h0]
   have hn:=basE_n h0
   obtain ⟨q,rfl⟩:∃ q:Nat,n=q:=⟨n.toNat,by omega⟩
   refine ⟨_,drossref13_within.spec (by omega) ha,?_⟩
   rw [Int.toNat_natCast]
   unfold inU
   by_cases h:sN a<2^q
   ·rw [if_pos (decide_eq_true h),decide_eq_true h,Bool.true_and]
    refine ⟨_,drossref13_within.spec (by omega) hb,?_⟩
    split<;>rfl
   ·rw [if_neg (by rw [decide_eq_false h];decide),decide_eq_false h,Bool.false_and];rfl
  ·rw [if_neg h0,if_neg h0])
 rw [← h1];exact h2
def mvL (l:List api_FD):List api_MVD:=l.map fun d=>⟨d.Lhs,d.Rhs⟩
theorem mvL_ok {l:List api_FD} (h:FdOK l):MvdOK (mvL l):=fun d hd=>by
 obtain ⟨x,hx,rfl⟩:=List.mem_map.1 hd
 exact h x hx
theorem drossref13_List.spec {n:Nat} {L:List drossref09_Dep} (hn:n≤16) (hL:DepOK L) (hlen:L.length≤4000000):drossref13_List.C n L (mvL (depL n L)):=by
 obtain ⟨r,h1,h2⟩:=drossref13_List.enter n L (fun r=>r=mvL (depL n L)) (by
  refine ⟨_,drossref09_List.spec hn hL hlen,?_⟩
  have hdl:(depL n L).length≤4000000:=by rw [depL_len];exact hlen
  generalize depL n L=x at *
  have go:∀ (r:List api_FD) (k:Nat) (out:List api_MVD),x.drop k=r→out.length≤k→out++mvL r=mvL x→drossref13_List.L1 out x (k:Int) (fun r=>r=mvL x):=by
   intro r
   induction r with
   | nil=>
    intro k out hd hk h
    have:=drop_ge hd
    apply drossref13_List.L1_step
    rw [if_neg (by omega)]
    simpa [mvL] using h
   | cons a r ih=>
    intro k out hd hk h
    have hlt:=drop_lt hd
    apply drossref13_List.L1_step
    rw [if_pos (by omega)]
    refine ⟨a,lget_drop hd,by omega,?_⟩
    rw [wrap_succ (by omega)]
    exact ih (k+1) _ (drop_next hd) (by rw [List.length_append];simp only [List.length_cons,List.length_nil];omega) (by rw [List.append_assoc];exact h)
  exact go x 0 [] rfl (Nat.le_refl 0) rfl)
 rw [← h1];exact h2
theorem drossref13_Of.spec {x:drossref13_Mixed} (hN:0≤x.D.N∧x.D.N<256) (hL:DepOK x.D.L) (hM:DepOK x.M) (h1:x.D.L.length≤4000000) (h2:x.M.length≤4000000):∃ n l m b,drossref13_Of.C x (n,l,m,b)∧FdOK l∧MvdOK m:=by
 obtain ⟨r,e1,e2⟩:=drossref13_Of.enter x (fun r=>FdOK r.2.1∧MvdOK r.2.2.1) (by
  refine ⟨_,drossref09_Of.spec hN hL h1,_,drossref13_List.spec (by have:=depN_lt (N:=x.D.N);omega) hM h2,?_⟩
  have h6:=depN_lt (N:=x.D.N)
  split
  ·exact ⟨depL_ok (by omega),mvL_ok (depL_ok (by omega))⟩
  ·exact ⟨depL_ok (by omega),mvL_ok (depL_ok (by omega))⟩)
 obtain ⟨n,l,m,b⟩:=r
 exact ⟨n,l,m,b,e2,e1⟩
section
variable {n:Int} {l:List api_FD} {m:List api_MVD} {a b:Int}
theorem basis_Basis.fails (hl:FdOK l) (hm:MvdOK m) (ha:U32 a) (h:errS n l m a 0≠0):basis_Basis.C n l m a ([],errS n l m a 0):=by
 obtain ⟨r,h1,h2⟩:=basis_Basis.enter n l m a (fun r=>r=([],errS n l m a 0)) ⟨_,basis_check.one hl hm ha,by rw [if_neg h]⟩
 rw [← h1];exact h2
theorem basis_Close.fails (hl:FdOK l) (hm:MvdOK m) (ha:U32 a) (h:errS n l m a 0≠0):basis_Close.C n l m a (0,errS n l m a 0):=by
 obtain ⟨r,h1,h2⟩:=basis_Close.enter n l m a (fun r=>r=(0,errS n l m a 0)) ⟨_,basis_check.one hl hm ha,by rw [if_neg h]⟩
 rw [← h1];exact h2
theorem basis_ImpliesMVD.fails (hl:FdOK l) (hm:MvdOK m) (ha:U32 a) (hb:U32 b) (h:errS n l m a b≠0):basis_ImpliesMVD.C n l m ⟨a,b⟩ (false,errS n l m a b):=by
 obtain ⟨r,h1,h2⟩:=basis_ImpliesMVD.enter n l m ⟨a,b⟩ (fun r=>r=(false,errS n l m a b)) ⟨_,basis_check.spec hl hm ha hb,by rw [if_neg h]⟩
 rw [← h1];exact h2
theorem basis_ImpliesFD.fails (hl:FdOK l) (hm:MvdOK m) (ha:U32 a) (hb:U32 b) (h:errS n l m a b≠0):basis_ImpliesFD.C n l m ⟨a,b⟩ (false,errS n l m a b):=by
 obtain ⟨r,h1,h2⟩:=basis_ImpliesFD.enter n l m ⟨a,b⟩ (fun r=>r=(false,errS n l m a b)) ⟨_,basis_check.spec hl hm ha hb,by rw [if_neg h]⟩
 rw [← h1];exact h2
end
namespace drosslaw13_BasisErrors
theorem again {φ:Bool→Prop} (h:φ true):L2 φ:=L2_step φ ⟨true,drosslaw13_awake.spec,h⟩
theorem spec (n:Int) (x:drossref13_Mixed) (s:Int×Int) (hN:0≤x.D.N∧x.D.N<256) (hL:DepOK x.D.L) (hM:DepOK x.M) (h1:x.D.L.length≤4000000) (h2:x.M.length≤4000000) (ha:U32 s.1) (hb:U32 s.2):C n x s true:=by
 obtain ⟨r,e1,e2⟩:=enter n x s (fun r=>r=true) (by
  obtain ⟨k,l,m,ok,hof,hl,hm⟩:=drossref13_Of.spec hN hL hM h1 h2
  refine ⟨_,hof,true,drosslaw13_awake.spec,?_⟩
  rw [if_pos rfl]
  cases ok with
  | false=>exact again rfl
  | true=>
   rw [if_pos rfl]
   have hz:U32 0:=⟨by omega,by omega⟩
   refine ⟨_,drossref13_Error.spec hl hm ha hz,_,drossref13_Error.spec hl hm ha hb,?_⟩
   have last:L1 n s (k,l,m,true) (errS n l m s.1 s.2) (fun r=>r=true):=by
    apply L1_step
    by_cases h0:errS n l m s.1 s.2=0
    ·rw [if_pos h0]
    ·rw [if_neg h0]
     refine ⟨_,basis_ImpliesMVD.fails hl hm ha hb h0,_,basis_ImpliesFD.fails hl hm ha hb h0,?_⟩
     rw [if_neg Bool.false_ne_true,if_pos rfl,if_neg Bool.false_ne_true]
     simp
   by_cases h0:errS n l m s.1 0=0
   ·rw [if_pos h0];exact last
   ·rw [if_neg h0]
    refine ⟨_,basis_Basis.fails hl hm ha h0,_,basis_Close.fails hl hm ha h0,?_⟩
    rw [if_pos (by rfl),if_pos rfl,if_pos rfl,if_pos rfl]
    exact last)
 subst e1;exact e2
theorem law {xs:List D} (hx:TyAll env.P drosslaw13_BasisErrors_K drosslaw13_BasisErrors_T xs) (hw:wtL xs≤1048576):Ret env drosslaw13_BasisErrors_F xs (.lit (.bool true)) []:=by
 obtain ⟨x0,x1,x2,h0,h1,h2,e⟩:=drosslaw13_BasisErrors_args (P:=env.P) tf hx
 rw [e] at hw ⊢
 have hlen:x1.D.L.length≤4000000∧x1.M.length≤4000000:=by
  have h1:=wtLL_len (x1.D.L.map enc_drossref09_Dep)
  have h2:=wtLL_len (x1.M.map enc_drossref09_Dep)
  rw [List.length_map] at h1 h2
  simp only [enc_drossref13_Mixed,wtL,wt] at hw
  omega
 exact spec x0 x1 x2 (u8_of h1.1.1) (fun x hx=>⟨u8_of (h1.1.2.2 x hx).1,u8_of (h1.1.2.2 x hx).2⟩) (fun x hx=>⟨u8_of (h1.2.2 x hx).1,u8_of (h1.2.2 x hx).2⟩) hlen.1 hlen.2 (u32_of h2.1) (u32_of h2.2)
end drosslaw13_BasisErrors
end Go.Own
