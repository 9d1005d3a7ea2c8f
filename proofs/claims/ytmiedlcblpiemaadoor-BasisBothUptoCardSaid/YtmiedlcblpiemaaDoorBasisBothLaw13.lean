/- What the functions that the law reaches answer. No conditions. -/
import Derived.Test.YtmiedlcblpiemaaDoorBasisBothLaw12
import Derived.Test.YtmiedlcblpiemaaDoorOwn32
import Derived.Test.YtmiedlcblpiemaaDoorBasisBothLaw7
import Derived.Test.YtmiedlcblpiemaaDoorBasisBothLaw10
import Derived.Test.YtmiedlcblpiemaaDoorBasisBothLaw4
set_option linter.all false
namespace Go.Own
def depL (n:Nat) (L:List drossref09_Dep):List api_FD:=L.map fun x=>{ Lhs:=((sN x.L &&& (2^n-1):Nat):Int),Rhs:=((sN x.R &&& (2^n-1):Nat):Int) }
def DepOK (L:List drossref09_Dep):Prop:=∀ x∈L,(0≤x.L∧x.L<256)∧0≤x.R∧x.R<256
theorem dep_and {x:Int} (h:0≤x∧x<256) {n:Nat} (hn:n≤16):bAnd .u32 (IntKind.wrap .u32 x) ((2^n-1:Nat):Int)=((sN x &&& (2^n-1):Nat):Int):=by
 have hp:=pow16 hn
 have e:x=((sN x:Nat):Int):=by unfold sN;omega
 have e2:IntKind.wrap .u32 x=((sN x:Nat):Int):=by
  conv=>lhs;rw [e]
  exact wrap_top (k:=.u32) (by simp only [top];unfold sN;omega)
 rw [e2]
 exact bAnd_nat (k:=.u32) (by simp only [top];unfold sN;omega) (by simp only [top];omega)
theorem and_pow {x n:Nat}:x &&& (2^n-1)<2^n:=by
 have:=Nat.and_le_right (n:=x) (m:=2^n-1)
 have:0<2^n:=Nat.pow_pos (by omega)
 omega
theorem drossref09_List.spec {n:Nat} {L:List drossref09_Dep} (hn:n≤16) (hL:DepOK L) (hlen:L.length≤4000000):drossref09_List.C n L (depL n L):=by
 obtain ⟨r,h1,h2⟩:=drossref09_List.enter n L (fun r=>r=depL n L) (by
  refine ⟨_,full_spec hn,?_⟩
  have:∀ (r:List drossref09_Dep) (k:Nat),L.drop k=r→k≤L.length→drossref09_List.L1 L ((2^n-1:Nat):Int) (depL n (L.take k)) k (fun r=>r=depL n L):=by
   intro r
   induction r with
   | nil=>
    intro k hd hk
    have:=drop_ge hd
    apply drossref09_List.L1_step
    rw [if_neg (by omega),List.take_of_length_le (by omega)]
   | cons x r ih=>
    intro k hd hk
    have hlt:=drop_lt hd
    have hx:=hL x (List.mem_of_getElem? (drop_get hd))
    have next:=ih (k+1) (drop_next hd) (by omega)
    rw [List.take_add_one,drop_get hd,Option.toList_some] at next
    unfold depL at next
    rw [List.map_append,List.map_cons,List.map_nil] at next
    apply drossref09_List.L1_step
    rw [if_pos (by omega)]
    refine ⟨x,lget_drop hd,?_⟩
    rw [dep_and hx.1 hn,dep_and hx.2 hn,wrap_succ (by omega)]
    exact ⟨by unfold depL;rw [List.length_map,List.length_take];omega,next⟩
  exact this L 0 rfl (Nat.zero_le _))
 rw [← h1];exact h2
def depN (N:Int):Nat:=(N % 7).toNat
theorem depN_lt {N:Int}:depN N≤6:=by unfold depN;omega
theorem drossref09_Of.spec {d:drossref09_Deps} (hN:0≤d.N∧d.N<256) (hL:DepOK d.L) (hlen:d.L.length≤4000000):drossref09_Of.C d (((depN d.N:Nat):Int),depL (depN d.N) d.L,decide ((d.L.length:Int)≤6)):=by
 obtain ⟨r,h1,h2⟩:=drossref09_Of.enter d (fun r=>r=(((depN d.N:Nat):Int),depL (depN d.N) d.L,decide ((d.L.length:Int)≤6))) (by
  have e:IntKind.wrap .i64 (Int.tmod d.N 7)=((depN d.N:Nat):Int):=by
   rw [Int.tmod_eq_emod_of_nonneg hN.1]
   have:d.N % 7=((depN d.N:Nat):Int):=by unfold depN;omega
   rw [this]
   exact wrap_top (k:=.i64) (by simp only [top];have:=depN_lt (N:=d.N);omega)
  rw [e]
  exact ⟨_,drossref09_List.spec (by have:=depN_lt (N:=d.N);omega) hL hlen,rfl⟩)
 rw [← h1];exact h2
theorem wtLL_len:∀ (es:List (List D)),es.length≤wtLL es
 | []=>Nat.le_refl _
 | x::r=>by simp only [wtLL,List.length_cons];have:=wtLL_len r;omega
theorem depL_ok {n:Nat} {L:List drossref09_Dep} (hn:n≤16):FdOK (depL n L):=fun d hd=>by
 obtain ⟨x,_,rfl⟩:=List.mem_map.1 hd
 have hp:=pow16 hn
 exact ⟨U32.of (Nat.lt_of_lt_of_le and_pow (by omega)),U32.of (Nat.lt_of_lt_of_le and_pow (by omega))⟩
theorem depL_len {n:Nat} {L:List drossref09_Dep}:(depL n L).length=L.length:=by simp [depL]
theorem depL_err {n:Nat} {L:List drossref09_Dep} (hn:n≤6) (hl:L.length≤6):errA (n:Int) (depL n L)=0:=by
 have h0:fdsE (n:Int) (depL n L)=0:=by
  unfold fdsE
  rw [if_neg (by omega),if_neg (by rw [depL_len];omega),if_pos]
  rw [List.all_eq_true]
  intro d hd
  obtain ⟨x,_,rfl⟩:=List.mem_map.1 hd
  unfold inU
  rw [sN_nat,sN_nat,Int.toNat_natCast,decide_eq_true and_pow,decide_eq_true and_pow];rfl
 unfold errA
 rw [if_pos h0,if_neg (by omega)]
end Go.Own
namespace Go.Own
structure Mix (n:Nat) (fds:List api_FD) (mvds:List api_MVD):Prop where
 n6:n≤6
 fok:FdOK fds
 mok:MvdOK mvds
 f64:fds.length≤64
 m64:mvds.length≤64
def restN (n x:Nat):Nat:=ndiff (2^n-1) x
theorem pow_lt32 {n:Nat} (hn:n≤16):2^n-1<2^32:=Nat.lt_of_lt_of_le (Nat.sub_lt (Nat.pow_pos (by omega)) (by omega)) (Nat.pow_le_pow_right (by omega) (by omega))
theorem restN_lt {n x:Nat} (hn:n≤16):restN n x<2^n:=Nat.lt_of_le_of_lt ndiff_le (Nat.sub_lt (Nat.pow_pos (by omega)) (by omega))
theorem restN_32 {n x:Nat} (hn:n≤16):restN n x<2^32:=Nat.lt_of_lt_of_le (restN_lt hn) (Nat.pow_le_pow_right (by omega) (by omega))
theorem restN_6 {n x:Nat} (hn:n≤6):restN n x<2^6:=Nat.lt_of_lt_of_le (restN_lt (by omega)) (Nat.pow_le_pow_right (by omega) (by omega))
theorem restN_x {n x:Nat}:restN n x &&& x=0:=and_zero.2 fun i hi=>by
 unfold restN at hi
 rw [ndiff_bit,Bool.and_eq_true,Bool.not_eq_true'] at hi
 exact hi.2
def blk (n:Nat) (fds:List api_FD) (mvds:List api_MVD) (x:Nat):List Nat:=finB (fds.map fN) (mvds.map mN) (restN n x)
structure Chased (n:Nat) (fds:List api_FD) (mvds:List api_MVD) (x live:Nat) (R:List Nat):Prop where
 rows:Rows13 (fds.map fN) (blk n fds mvds x) (restN n x) live R
 done:Closed2 (fds.map fN) (mvds.map mN) fun u=>u∈R
section
variable {n x:Nat} {fds:List api_FD} {mvds:List api_MVD}
theorem Mix.part (h:Mix n fds mvds):BPart (restN n x) (blk n fds mvds x):=(fin_part (restN_32 (by have:=h.n6;omega))).1
namespace drossref13_Chase
end drossref13_Chase
def cloX (n:Nat) (fds:List api_FD) (mvds:List api_MVD) (x:Nat):Nat:=ofBits (fun i=>x.testBit i || decide (2^i∈blk n fds mvds x∧∃ d∈fds.map fN,d.2.testBit i=true∧d.1.testBit i=false)) n
theorem cloX_lt:cloX n fds mvds x<2^n:=ofBits_lt n
def folX (n:Nat) (fds:List api_FD) (mvds:List api_MVD) (x y:Nat):Bool:=(blk n fds mvds x).all fun b=>decide (b &&& y=0) || decide (ndiff b y=0)
theorem folX_iff {y:Nat}:folX n fds mvds x y=true↔∀ b∈blk n fds mvds x,b &&& y=0∨ndiff b y=0:=by
 unfold folX
 rw [List.all_eq_true]
 exact forall_congr' fun b=>forall_congr' fun _=>by rw [Bool.or_eq_true,decide_eq_true_eq,decide_eq_true_eq]
end
end Go.Own
namespace Go.Own
def errS (n:Int) (l:List api_FD) (m:List api_MVD) (a b:Int):Int:=if basE n l m=0 then (if inU n.toNat a b=true then 0 else 1) else basE n l m
theorem basE_n {n:Int} {l:List api_FD} {m:List api_MVD} (h:basE n l m=0):0≤n∧n≤16:=by
 unfold basE at h
 split at h
 ·rename_i h0;exact fdsE_n h0
 ·rename_i h0;exact absurd h h0
theorem or_self {a:Int} (ha:U32 a):bOr .u32 a a=a:=by
 have:=bOr_nat (k:=.u32) ha.top ha.top
 rw [← ha.eq,Nat.or_self,← ha.eq] at this
 exact this
theorem inU_zero {n:Nat} {a:Int}:inU n a 0=inU n a a:=by
 unfold inU
 have:sN 0<2^n:=Nat.pow_pos (by omega)
 rw [decide_eq_true this,Bool.and_true,Bool.and_self]
theorem basis_check.spec {n:Int} {l:List api_FD} {m:List api_MVD} {a b:Int} (hl:FdOK l) (hm:MvdOK m) (ha:U32 a) (hb:U32 b):basis_check.C n l m (bOr .u32 a b) (errS n l m a b):=by
 obtain ⟨r,h1,h2⟩:=basis_check.enter n l m (bOr .u32 a b) (fun r=>r=errS n l m a b) (by
  refine ⟨_,basis_Valid.spec hl hm,?_⟩
  unfold errS
  by_cases h0:basE n l m=0
  ·rw [if_pos h0,if_pos h0]
   obtain ⟨q,rfl⟩:∃ q:Nat,n=q:=⟨n.toNat,by have:=basE_n h0;omega⟩
   refine ⟨by omega,?_⟩
   have e:=in_or (n:=q) ha hb
   rw [Int.toNat_natCast]
   by_cases h:inU q a b=true
   ·rw [if_pos (e.2 h),if_pos h]
   ·rw [if_neg (fun hh=>h (e.1 hh)),if_neg h]
  ·rw [if_neg h0,if_neg h0])
 rw [← h1];exact h2
theorem basis_check.one {n:Int} {l:List api_FD} {m:List api_MVD} {a:Int} (hl:FdOK l) (hm:MvdOK m) (ha:U32 a):basis_check.C n l m a (errS n l m a 0):=by
 have:=basis_check.spec (n:=n) hl hm ha ha
 rw [or_self ha] at this
 have e:errS n l m a a=errS n l m a 0:=by unfold errS;rw [inU_zero]
 rw [e] at this
 exact this
def mvL (l:List api_FD):List api_MVD:=l.map fun d=>⟨d.Lhs,d.Rhs⟩
theorem mvL_ok {l:List api_FD} (h:FdOK l):MvdOK (mvL l):=fun d hd=>by
 obtain ⟨x,hx,rfl⟩:=List.mem_map.1 hd
 exact h x hx
theorem drossref13_List.spec {n:Nat} {L:List drossref09_Dep} (hn:n≤16) (hL:DepOK L) (hlen:L.length≤4000000):drossref13_List.C n L (mvL (depL n L)):=by
 obtain ⟨r,h1,h2⟩:=drossref13_List.enter n L (fun r=>r=mvL (depL n L)) (by
  refine ⟨_,drossref09_List.spec hn hL hlen,?_⟩
  have hdl:(depL n L).length≤4000000:=by rw [depL_len];exact hlen
  generalize depL n L=x at *
  have go:∀ (r:List api_FD) (k:Nat) (out:List api_MVD),x.drop k=r→out.length≤k→out++mvL r=mvL x→drossref13_List.L1 out x (k:Int) (fun r=>r=mvL x):=by
   intro r
   induction r with
   | nil=>
    intro k out hd hk h
    have:=drop_ge hd
    apply drossref13_List.L1_step
    rw [if_neg (by omega)]
    simpa [mvL] using h
   | cons a r ih=>
    intro k out hd hk h
    have hlt:=drop_lt hd
    apply drossref13_List.L1_step
    rw [if_pos (by omega)]
    refine ⟨a,lget_drop hd,by omega,?_⟩
    rw [wrap_succ (by omega)]
    exact ih (k+1) _ (drop_next hd) (by rw [List.length_append];simp only [List.length_cons,List.length_nil];omega) (by rw [List.append_assoc];exact h)
  exact go x 0 [] rfl (Nat.le_refl 0) rfl)
 rw [← h1];exact h2
end Go.Own
namespace Go.Own
section
variable {n x:Nat} {fds:List api_FD} {mvds:List api_MVD}
def blkL (n:Nat) (fds:List api_FD) (mvds:List api_MVD) (x:Nat):List Int:=ordL (lN (blk n fds mvds x))
theorem Mix.blk_lt (h:Mix n fds mvds) {b:Nat} (hb:b∈blk n fds mvds x):b<2^n:=(h.part (x:=x)).lt (restN_lt (by have:=h.n6;omega)) hb
theorem Mix.p32 (h:Mix n fds mvds):2^n≤2^32:=Nat.pow_le_pow_right (by omega) (by have:=h.n6;omega)
theorem Mix.allU (h:Mix n fds mvds):AllU (lN (blk n fds mvds x)):=fun y hy=>by
 obtain ⟨b,hb,rfl⟩:=List.mem_map.1 hy
 exact U32.of (Nat.lt_of_lt_of_le (h.blk_lt hb) h.p32)
theorem Mix.blkL_mem (h:Mix n fds mvds) {y:Int}:y∈blkL n fds mvds x↔∃ b∈blk n fds mvds x,y=(b:Int):=by
 unfold blkL
 rw [ordL_mem h.allU]
 unfold lN
 rw [List.mem_map]
 exact ⟨fun ⟨b,h1,h2⟩=>⟨b,h1,h2.symm⟩,fun ⟨b,h1,h2⟩=>⟨b,h1,h2.symm⟩⟩
theorem Mix.blkL_len (h:Mix n fds mvds):(blkL n fds mvds x).length≤6:=by
 have h1:=ordL_len (l:=lN (blk n fds mvds x))
 have h2:=(h.part (x:=x)).len (restN_6 h.n6)
 rw [lN_len] at h1
 unfold blkL;omega
def Val (n:Nat) (fds:List api_FD) (mvds:List api_MVD):Prop:=basE (n:Int) fds mvds=0
theorem errS_zero {a b:Nat} (hv:Val n fds mvds) (ha:a<2^n) (hb:b<2^n):errS (n:Int) fds mvds (a:Int) (b:Int)=0:=by
 unfold errS
 have hv:basE (n:Int) fds mvds=0:=hv
 rw [if_pos hv,if_pos]
 unfold inU
 rw [sN_nat,sN_nat,Int.toNat_natCast,decide_eq_true ha,decide_eq_true hb];rfl
theorem basis_check.ok (h:Mix n fds mvds) (hv:Val n fds mvds) (hx:x<2^n):basis_check.C n fds mvds x 0:=by
 have:=basis_check.one (n:=(n:Int)) h.fok h.mok (a:=(x:Int)) (U32.of (Nat.lt_of_lt_of_le hx h.p32))
 have e:errS (n:Int) fds mvds (x:Int) 0=0:=errS_zero (b:=0) hv hx (Nat.pow_pos (by omega))
 rw [e] at this;exact this
theorem basis_check.ok2 (h:Mix n fds mvds) (hv:Val n fds mvds) {y:Nat} (hx:x<2^n) (hy:y<2^n):basis_check.C n fds mvds (bOr .u32 (x:Int) (y:Int)) 0:=by
 have:=basis_check.spec (n:=(n:Int)) h.fok h.mok (a:=(x:Int)) (b:=(y:Int)) (U32.of (Nat.lt_of_lt_of_le hx h.p32)) (U32.of (Nat.lt_of_lt_of_le hy h.p32))
 rw [errS_zero hv hx hy] at this;exact this
theorem basis_blocks.ok (h:Mix n fds mvds) (hx:x<2^n):basis_blocks.C n (allI fds mvds) x (blkL n fds mvds x):=
 basis_blocks.all (by have:=h.n6;omega) (Nat.lt_of_lt_of_le hx h.p32) h.fok h.mok h.f64 h.m64
theorem div_all (h:Mix n fds mvds) {y:Nat}:(blkL n fds mvds x).all (fun b=>decide (sN b &&& y=0) || decide (ndiff (sN b) y=0))=folX n fds mvds x y:=by
 unfold folX
 rw [Bool.eq_iff_iff,List.all_eq_true,List.all_eq_true]
 constructor
 ·intro hh b hb
  have:=hh (b:Int) (h.blkL_mem.2 ⟨b,hb,rfl⟩)
  rwa [sN_nat] at this
 ·intro hh z hz
  obtain ⟨b,hb,rfl⟩:=h.blkL_mem.1 hz
  rw [sN_nat];exact hh b hb
theorem basis_ImpliesMVD.spec (h:Mix n fds mvds) (hv:Val n fds mvds) {y:Nat} (hx:x<2^n) (hy:y<2^n):basis_ImpliesMVD.C n fds mvds ⟨x,y⟩ (folX n fds mvds x y,0):=by
 obtain ⟨r,h1,h2⟩:=basis_ImpliesMVD.enter n fds mvds ⟨x,y⟩ (fun r=>r=(folX n fds mvds x y,0)) ⟨_,basis_check.ok2 h hv hx hy,by
  rw [if_pos rfl]
  refine ⟨_,basis_all.spec h.fok h.f64 h.m64,_,basis_blocks.ok h hx,?_⟩
  have hlen:=h.blkL_len (x:=x)
  rw [← div_all h]
  generalize hφ:(fun r:Bool×Int=>r=((blkL n fds mvds x).all (fun b=>decide (sN b &&& y=0) || decide (ndiff (sN b) y=0)),(0:Int)))=φ
  have hφ0:φ ((blkL n fds mvds x).all (fun b=>decide (sN b &&& y=0) || decide (ndiff (sN b) y=0)),0):=by rw [← hφ]
  clear hφ
  refine all_loop (l:=blkL n fds mvds x) (p:=fun b=>decide (sN b &&& y=0) || decide (ndiff (sN b) y=0)) (L:=fun i=>basis_ImpliesMVD.L1 ⟨x,y⟩ (blkL n fds mvds x) i φ) (φ:=fun b=>φ (b,(0:Int))) ?_ ?_ hφ0
  ·intro hh;apply basis_ImpliesMVD.L1_step;rw [if_neg (by omega)];exact hh
  ·intro k a ha hk hh
   obtain ⟨b,hb,rfl⟩:=h.blkL_mem.1 (List.mem_of_getElem? ha)
   have hb32:=Nat.lt_of_lt_of_le (h.blk_lt hb) h.p32
   have hy32:=Nat.lt_of_lt_of_le hy h.p32
   rw [sN_nat] at hh
   apply basis_ImpliesMVD.L1_step
   rw [if_pos (by omega)]
   refine ⟨_,lget_of ha,?_⟩
   have next:basis_ImpliesMVD.L1 ⟨x,y⟩ (blkL n fds mvds x) ((k+1:Nat):Int) φ→basis_ImpliesMVD.L2 ⟨x,y⟩ (blkL n fds mvds x) (k:Int) φ:=fun q=>by
    apply basis_ImpliesMVD.L2_step
    rw [wrap_succ (by omega)];exact q
   show (if bAnd .u32 (b:Int) (y:Int)=0 then _ else _)
   rw [bAnd_nat (top32 hb32) (top32 hy32)]
   by_cases h1:b &&& y=0
   ·rw [if_pos (by omega)]
    rw [if_pos (by simp [h1])] at hh
    exact next hh
   ·rw [if_neg (by omega)]
    show (if bAndNot .u32 (b:Int) (y:Int)=0 then _ else _)
    rw [bAndNot_nat (top32 hb32) (top32 hy32)]
    by_cases h2:ndiff b y=0
    ·rw [if_pos (by omega)]
     rw [if_pos (by simp [h2])] at hh
     exact next hh
    ·rw [if_neg (by omega)]
     rw [if_neg (by simp [h1,h2])] at hh
     exact hh⟩
 rw [← h1];exact h2
theorem szN_one {b:Nat} (hb:b<2^32):szN b=1↔∃ j,j<32∧b=2^j:=by
 unfold szN
 constructor
 ·intro h
  obtain ⟨j,hj⟩:=List.length_eq_one_iff.1 h
  have hjb:=(bitsOf_mem hb).1 (by rw [hj];simp:j∈bitsOf b)
  refine ⟨j,lt_iff.1 hb j hjb,?_⟩
  apply Nat.eq_of_testBit_eq
  intro i
  rw [one_bit,Bool.eq_iff_iff,decide_eq_true_eq,← bitsOf_mem hb,hj,List.mem_singleton]
  exact eq_comm
 ·rintro ⟨j,hj,rfl⟩
  have hm:∀ i,i∈bitsOf (2^j)↔j=i:=fun i=>by rw [bitsOf_mem hb,one_bit,decide_eq_true_eq]
  have hs:=bitsOf_sorted (n:=2^j)
  match hq:bitsOf (2^j),hm,hs with
  | [],hm,_=>exact absurd ((hm j).2 rfl) (by simp)
  | [a],_,_=>rfl
  | a::b::l,hm,hs=>
   have h1:=(hm a).1 (by simp)
   have h2:=(hm b).1 (by simp)
   have:=(List.pairwise_cons.1 hs).1 b (by simp)
   omega
def detB (fds:List api_FD) (b:Nat):Bool:=decide (szN b=1)&&fds.any fun d=>decide (ndiff (sN d.Rhs) (sN d.Lhs) &&& b≠0)
def detL (fds:List api_FD):List Int→Nat→Nat
 | [],a=>a
 | b::l,a=>detL fds l (if detB fds (sN b)=true then a ||| sN b else a)
theorem detL_bit:∀ {l:List Int} {a i:Nat},(detL fds l a).testBit i=(a.testBit i || l.any fun b=>detB fds (sN b)&&(sN b).testBit i)
 | [],a,i=>by simp [detL]
 | b::l,a,i=>by
  simp only [detL]
  rw [detL_bit,List.any_cons]
  cases hp:detB fds (sN b)<;>simp [Nat.testBit_or,Bool.or_assoc]
theorem det_clo (h:Mix n fds mvds) (hx:x<2^n):detL fds (blkL n fds mvds x) x=cloX n fds mvds x:=by
 apply Nat.eq_of_testBit_eq
 intro i
 unfold cloX
 rw [detL_bit,ofBits_bit,Bool.eq_iff_iff,Bool.or_eq_true,Bool.and_eq_true,Bool.or_eq_true,decide_eq_true_eq,decide_eq_true_eq,List.any_eq_true]
 have h32:=h.p32
 constructor
 ·rintro (hi | ⟨z,hz,hq⟩)
  ·exact ⟨lt_iff.1 hx i hi,.inl hi⟩
  ·obtain ⟨b,hb,rfl⟩:=h.blkL_mem.1 hz
   rw [sN_nat,Bool.and_eq_true] at hq
   obtain ⟨hp,hbi⟩:=hq
   have hbn:=h.blk_lt hb
   unfold detB at hp
   rw [Bool.and_eq_true,decide_eq_true_eq,List.any_eq_true] at hp
   obtain ⟨j,_,rfl⟩:=(szN_one (Nat.lt_of_lt_of_le hbn h32)).1 hp.1
   rw [one_bit,decide_eq_true_eq] at hbi
   subst hbi
   obtain ⟨d,hd,hne⟩:=hp.2
   rw [decide_eq_true_eq] at hne
   obtain ⟨q,h1,h2⟩:=and_ne.1 hne
   rw [one_bit,decide_eq_true_eq] at h2
   subst h2
   rw [ndiff_bit,Bool.and_eq_true,Bool.not_eq_true'] at h1
   exact ⟨lt_iff.1 hbn j (by rw [one_bit];simp),.inr ⟨hb,fN d,List.mem_map.2 ⟨d,hd,rfl⟩,h1⟩⟩
 ·rintro ⟨hi,hxi | ⟨hb,d,hd,h1,h2⟩⟩
  ·exact .inl hxi
  ·obtain ⟨f,hf,rfl⟩:=List.mem_map.1 hd
   refine .inr ⟨((2^i:Nat):Int),h.blkL_mem.2 ⟨_,hb,rfl⟩,?_⟩
   rw [sN_nat,Bool.and_eq_true]
   refine ⟨?_,by rw [one_bit];simp⟩
   unfold detB
   rw [Bool.and_eq_true,decide_eq_true_eq,List.any_eq_true]
   refine ⟨(szN_one (Nat.lt_of_lt_of_le (h.blk_lt hb) h32)).2 ⟨i,by have:=h.n6;omega,rfl⟩,f,hf,?_⟩
   rw [decide_eq_true_eq]
   exact and_ne.2 ⟨i,by rw [ndiff_bit];unfold fN at h1 h2;simp only at h1 h2;rw [h1,h2];rfl,by rw [one_bit];simp⟩
theorem close_index (h:Mix n fds mvds) {b:Nat} (hb:b<2^32):slices_ContainsFunc_sapi_FD_api_FD_basis_Close_1.C fds (b:Int) (fds.any fun d=>decide (ndiff (sN d.Rhs) (sN d.Lhs) &&& b≠0)):=by
 have hlen:=h.f64
 have hone:∀ d∈fds,basis_Close_1.C d (b:Int) (decide (ndiff (sN d.Rhs) (sN d.Lhs) &&& b≠0)):=fun d hd=>by
  obtain ⟨r,h1,h2⟩:=basis_Close_1.enter d (b:Int) (fun r=>r=decide (ndiff (sN d.Rhs) (sN d.Lhs) &&& b≠0)) (by
   have hd':=h.fok d hd
   have e:bAndNot .u32 d.Rhs d.Lhs=((ndiff (sN d.Rhs) (sN d.Lhs):Nat):Int):=by
    conv=>lhs;rw [hd'.1.eq,hd'.2.eq]
    exact bAndNot_nat hd'.2.top hd'.1.top
   rw [e,bAnd_nat (top32 (Nat.lt_of_le_of_lt ndiff_le hd'.2.lt)) (top32 hb),Bool.eq_iff_iff,bne_iff_ne,decide_eq_true_eq]
   omega)
  rw [← h1];exact h2
 obtain ⟨r,h1,h2⟩:=slices_IndexFunc_sapi_FD_api_FD_basis_Close_1.enter fds (b:Int) (fun r=>decide (0≤r)=fds.any fun d=>decide (ndiff (sN d.Rhs) (sN d.Lhs) &&& b≠0)) (by
  have go:∀ (l:List api_FD) (k:Nat),fds.drop k=l→(fds.any fun d=>decide (ndiff (sN d.Rhs) (sN d.Lhs) &&& b≠0))=(l.any fun d=>decide (ndiff (sN d.Rhs) (sN d.Lhs) &&& b≠0))→slices_IndexFunc_sapi_FD_api_FD_basis_Close_1.L1 fds (b:Int) (k:Int) (fun r=>decide (0≤r)=fds.any fun d=>decide (ndiff (sN d.Rhs) (sN d.Lhs) &&& b≠0)):=by
   intro l
   induction l with
   | nil=>
    intro k hk he
    have:=drop_ge hk
    apply slices_IndexFunc_sapi_FD_api_FD_basis_Close_1.L1_step
    rw [if_neg (by omega),he];rfl
   | cons d l ih=>
    intro k hk he
    have hlt:=drop_lt hk
    apply slices_IndexFunc_sapi_FD_api_FD_basis_Close_1.L1_step
    rw [if_pos (by omega)]
    refine ⟨d,lget_drop hk,_,hone d (List.mem_of_getElem? (drop_get hk)),?_⟩
    rw [List.any_cons] at he
    cases hq:decide (ndiff (sN d.Rhs) (sN d.Lhs) &&& b≠0) with
    | true=>
     rw [if_pos rfl,he,hq,Bool.true_or,decide_eq_true_eq];omega
    | false=>
     rw [if_neg (by simp),wrap_succ (by omega)]
     rw [hq,Bool.false_or] at he
     exact ih (k+1) (drop_next hk) he
  exact go fds 0 rfl rfl)
 obtain ⟨q,h3,h4⟩:=slices_ContainsFunc_sapi_FD_api_FD_basis_Close_1.enter fds (b:Int) (fun q=>q=fds.any fun d=>decide (ndiff (sN d.Rhs) (sN d.Lhs) &&& b≠0)) ⟨r,h2,h1⟩
 rw [← h3];exact h4
theorem basis_Close.spec (h:Mix n fds mvds) (hv:Val n fds mvds) (hx:x<2^n):basis_Close.C n fds mvds x (((cloX n fds mvds x:Nat):Int),0):=by
 obtain ⟨r,h1,h2⟩:=basis_Close.enter n fds mvds x (fun r=>r=(((cloX n fds mvds x:Nat):Int),0)) ⟨_,basis_check.ok h hv hx,by
  rw [if_pos rfl]
  refine ⟨_,basis_all.spec h.fok h.f64 h.m64,_,basis_blocks.ok h hx,?_⟩
  rw [← det_clo h hx]
  have hlen:=h.blkL_len (x:=x)
  have h32:=h.p32
  have go:∀ (l:List Int) (k a:Nat),(blkL n fds mvds x).drop k=l→a<2^32→detL fds l a=detL fds (blkL n fds mvds x) x→basis_Close.L1 fds (a:Int) (blkL n fds mvds x) (k:Int) (fun r=>r=(((detL fds (blkL n fds mvds x) x:Nat):Int),0)):=by
   intro l
   induction l with
   | nil=>
    intro k a hk ha he
    have:=drop_ge hk
    apply basis_Close.L1_step
    rw [if_neg (by omega),← he];rfl
   | cons z l ih=>
    intro k a hk ha he
    have hlt:=drop_lt hk
    obtain ⟨b,hb,rfl⟩:=h.blkL_mem.1 (List.mem_of_getElem? (drop_get hk))
    have hb32:=Nat.lt_of_lt_of_le (h.blk_lt hb) h32
    have next:∀ a:Nat,a<2^32→detL fds l a=detL fds (blkL n fds mvds x) x→basis_Close.L2 fds (a:Int) (blkL n fds mvds x) (k:Int) (fun r=>r=(((detL fds (blkL n fds mvds x) x:Nat):Int),0)):=fun a ha he=>by
     apply basis_Close.L2_step
     rw [wrap_succ (by omega)]
     exact ih (k+1) a (drop_next hk) ha he
    simp only [detL,sN_nat] at he
    apply basis_Close.L1_step
    rw [if_pos (by omega)]
    have hs:=attrset_Size.spec (U32.of hb32)
    rw [sN_nat] at hs
    refine ⟨_,lget_drop hk,_,hs,?_⟩
    by_cases h1:szN b=1
    ·rw [if_pos (by omega)]
     refine ⟨_,close_index h hb32,?_⟩
     cases hq:(fds.any fun d=>decide (ndiff (sN d.Rhs) (sN d.Lhs) &&& b≠0)) with
     | true=>
      rw [if_pos rfl,bOr_nat (top32 ha) (top32 hb32)]
      rw [if_pos (by unfold detB;rw [hq,decide_eq_true h1];rfl)] at he
      exact next _ (Nat.or_lt_two_pow ha hb32) he
     | false=>
      rw [if_neg (by simp)]
      rw [if_neg (by unfold detB;rw [hq];simp)] at he
      exact next a ha he
    ·rw [if_neg (by omega)]
     rw [if_neg (by unfold detB;simp [h1])] at he
     exact next a ha he
  exact go _ 0 x rfl (Nat.lt_of_lt_of_le hx h32) rfl⟩
 rw [← h1];exact h2
theorem basis_ImpliesFD.spec (h:Mix n fds mvds) (hv:Val n fds mvds) {y:Nat} (hx:x<2^n) (hy:y<2^n):basis_ImpliesFD.C n fds mvds ⟨x,y⟩ (decide (ndiff y (cloX n fds mvds x)=0),0):=by
 obtain ⟨r,h1,h2⟩:=basis_ImpliesFD.enter n fds mvds ⟨x,y⟩ (fun r=>r=(decide (ndiff y (cloX n fds mvds x)=0),0)) ⟨_,basis_check.ok2 h hv hx hy,by
  rw [if_pos rfl]
  refine ⟨_,basis_Close.spec h hv hx,?_⟩
  show ((bAndNot .u32 (y:Int) ((cloX n fds mvds x:Nat):Int) == 0),(0:Int))=_
  rw [bAndNot_nat (top32 (Nat.lt_of_lt_of_le hy h.p32)) (top32 (Nat.lt_of_lt_of_le cloX_lt h.p32))]
  congr 1
  rw [Bool.eq_iff_iff,beq_iff_eq,decide_eq_true_eq];omega⟩
 rw [← h1];exact h2
end
theorem fdsE_dep {n:Nat} {L:List drossref09_Dep} (hn:n≤6) (hl:L.length≤6):fdsE (n:Int) (depL n L)=0:=by
 have:=errA_n (depL_err (n:=n) (L:=L) hn hl)
 exact this.2.2
theorem drossref13_Of.exact {x:drossref13_Mixed} (hN:0≤x.D.N∧x.D.N<256) (hL:DepOK x.D.L) (hM:DepOK x.M) (h1:x.D.L.length≤4000000) (h2:x.M.length≤4000000):drossref13_Of.C x (((depN x.D.N:Nat):Int),depL (depN x.D.N) x.D.L,mvL (depL (depN x.D.N) x.M),decide (x.D.L.length≤6∧x.M.length≤4)):=by
 obtain ⟨r,e1,e2⟩:=drossref13_Of.enter x (fun r=>r=(((depN x.D.N:Nat):Int),depL (depN x.D.N) x.D.L,mvL (depL (depN x.D.N) x.M),decide (x.D.L.length≤6∧x.M.length≤4))) (by
  refine ⟨_,drossref09_Of.spec hN hL h1,_,drossref13_List.spec (by have:=depN_lt (N:=x.D.N);omega) hM h2,?_⟩
  by_cases h6:x.D.L.length≤6
  ·rw [if_pos (by show decide _=true;rw [decide_eq_true_eq];omega)]
   congr 3
   rw [Bool.eq_iff_iff,decide_eq_true_eq,decide_eq_true_eq];omega
  ·rw [if_neg (by show ¬ decide _=true;rw [decide_eq_true_eq];omega)]
   congr 3
   rw [eq_comm,decide_eq_false_iff_not];omega)
 rw [← e1];exact e2
theorem mix_of {n:Nat} {L M:List drossref09_Dep} (hn:n≤6) (hl:L.length≤6) (hm:M.length≤4):Mix n (depL n L) (mvL (depL n M)) where
 n6:=hn
 fok:=depL_ok (by omega)
 mok:=mvL_ok (depL_ok (by omega))
 f64:=by rw [depL_len];omega
 m64:=by unfold mvL;rw [List.length_map,depL_len];omega
theorem val_of {n:Nat} {L M:List drossref09_Dep} (hn:n≤6) (hl:L.length≤6) (hm:M.length≤4):Val n (depL n L) (mvL (depL n M)):=by
 unfold Val basE
 rw [if_pos (fdsE_dep hn hl),if_neg (by unfold mvL;rw [List.length_map,depL_len];omega),if_pos]
 rw [List.all_eq_true]
 intro d hd
 obtain ⟨f,hf,rfl⟩:=List.mem_map.1 hd
 obtain ⟨z,_,rfl⟩:=List.mem_map.1 hf
 unfold inU
 rw [sN_nat,sN_nat,Int.toNat_natCast,decide_eq_true and_pow,decide_eq_true and_pow];rfl
end Go.Own
namespace Go.Own
theorem mix_nil {n:Nat} (hn:n≤6):Mix n [] []:=⟨hn,fun _ h=>(by cases h),fun _ h=>(by cases h),Nat.zero_le _,Nat.zero_le _⟩
theorem val_nil {n:Nat} (hn:n≤6):Val n [] []:=by
 unfold Val basE fdsE
 rw [if_pos (by rw [if_neg (by omega),if_neg (by simp),if_pos (by simp)]),if_neg (by simp),if_pos (by simp)]
theorem blk_nil {n x:Nat}:blk n [] [] x=startB (restN n x):=by
 show roundsB [] 40 (startB (restN n x))=_
 simp [roundsB,passB]
theorem fol_of_clo {n x y:Nat} {fds:List api_FD} {mvds:List api_MVD} (h:Mix n fds mvds) (hs:ndiff y (cloX n fds mvds x)=0):folX n fds mvds x y=true:=by
 have hp:=h.part (x:=x)
 rw [folX_iff]
 intro b hb
 by_cases h0:b &&& y=0
 ·exact .inl h0
 ·obtain ⟨i,hbi,hyi⟩:=and_ne.1 h0
  have hc:=ndiff_zero.1 hs i hyi
  unfold cloX at hc
  rw [ofBits_bit,Bool.and_eq_true,Bool.or_eq_true,decide_eq_true_eq,decide_eq_true_eq] at hc
  rcases hc.2 with hx | ⟨hm,_⟩
  ·have:=and_zero.1 (restN_x (n:=n) (x:=x)) i ((hp.all i).2 ⟨b,hb,hbi⟩)
   rw [hx] at this;cases this
  ·have:=dis_of hp hm hb (by rw [one_bit];simp) hbi
   subst this
   refine .inr (ndiff_zero.2 fun j hj=>?_)
   rw [one_bit,decide_eq_true_eq] at hj
   rw [← hj];exact hyi
theorem depOK_one {d:drossref09_Dep} (h:(0≤d.L∧d.L<256)∧0≤d.R∧d.R<256):DepOK [d]:=fun x hx=>by rw [List.mem_singleton.1 hx];exact h
theorem triv_nil {n x y:Nat} (hn:n≤6) (hx:x<2^n) (hy:y<2^n):folX n [] [] x y=trivF (n:Int) ⟨(x:Int),(y:Int)⟩:=by
 have h32:2^n≤2^32:=Nat.pow_le_pow_right (by omega) (by omega)
 have hin:inU n (x:Int) (y:Int)=true:=by unfold inU;rw [sN_nat,sN_nat,decide_eq_true hx,decide_eq_true hy];rfl
 unfold trivF
 rw [if_neg (by omega),Int.toNat_natCast]
 rw [if_pos hin,sN_nat,sN_nat]
 have ho:bOr .u32 (x:Int) (y:Int)=((x ||| y:Nat):Int):=bOr_nat (top32 (Nat.lt_of_lt_of_le hx h32)) (top32 (Nat.lt_of_lt_of_le hy h32))
 have hrest:∀ i,(restN n x).testBit i=(decide (i<n)&&!x.testBit i):=fun i=>by unfold restN;rw [ndiff_bit,Nat.testBit_two_pow_sub_one]
 have a1:restN n x &&& y=0↔ndiff y x=0:=by
  rw [and_zero,ndiff_zero]
  constructor
  ·intro h i hi
   cases hq:x.testBit i with
   | true=>rfl
   | false=>
    have:=h i (by rw [hrest,hq,decide_eq_true (lt_iff.1 hy i hi)];rfl)
    rw [hi] at this;cases this
  ·intro h i hi
   rw [hrest,Bool.and_eq_true,Bool.not_eq_true'] at hi
   cases hq:y.testBit i with
   | false=>rfl
   | true=>rw [h i hq] at hi;cases hi.2
 have a2:ndiff (restN n x) y=0↔x ||| y=fullN n:=by
  rw [full_small (by omega),ndiff_zero]
  constructor
  ·intro h
   apply Nat.eq_of_testBit_eq
   intro i
   rw [Nat.testBit_or,Nat.testBit_two_pow_sub_one]
   by_cases hi:i<n
   ·cases hq:x.testBit i with
    | true=>simp [hi]
    | false=>simp [hi,h i (by rw [hrest,hq,decide_eq_true hi];rfl)]
   ·have h1:x.testBit i=false:=by
     cases hq:x.testBit i with
     | false=>rfl
     | true=>exact absurd (lt_iff.1 hx i hq) hi
    have h2:y.testBit i=false:=by
     cases hq:y.testBit i with
     | false=>rfl
     | true=>exact absurd (lt_iff.1 hy i hq) hi
    simp [h1,h2,hi]
  ·intro h i hi
   rw [hrest,Bool.and_eq_true,Bool.not_eq_true',decide_eq_true_eq] at hi
   have:=congrArg (fun z=>z.testBit i) h
   simp only [Nat.testBit_or,Nat.testBit_two_pow_sub_one,hi.2,Bool.false_or,decide_eq_true hi.1] at this
   exact this
 have e:folX n [] [] x y=true↔ndiff y x=0∨x ||| y=fullN n:=by
  rw [folX_iff,blk_nil,← a1,← a2]
  unfold startB
  by_cases h0:restN n x=0
  ·rw [if_pos h0,h0];simp
  ·rw [if_neg h0];simp
 rw [Bool.eq_iff_iff,e,ho]
 by_cases h1:ndiff y x=0
 ·rw [if_pos h1];simp [h1]
 ·rw [if_neg h1,beq_iff_eq]
  constructor
  ·rintro (h | h)
   ·exact absurd h h1
   ·rw [h]
  ·intro h;right;omega
namespace drosslaw13_BasisBoth
theorem again {φ:Bool→Prop} (h:φ true):L1 φ:=L1_step φ ⟨true,drosslaw13_awake.spec,h⟩
theorem spec (x:drossref13_Mixed) (d:drossref09_Dep) (hN:0≤x.D.N∧x.D.N<256) (hL:DepOK x.D.L) (hM:DepOK x.M) (h1:x.D.L.length≤4000000) (h2:x.M.length≤4000000) (hd:(0≤d.L∧d.L<256)∧0≤d.R∧d.R<256):C x d true:=by
 obtain ⟨r,e1,e2⟩:=enter x d (fun r=>r=true) (by
  refine ⟨_,drossref13_Of.exact hN hL hM h1 h2,true,drosslaw13_awake.spec,?_⟩
  rw [if_pos rfl]
  by_cases hok:x.D.L.length≤6∧x.M.length≤4
  ·rw [if_pos (decide_eq_true hok)]
   have hn:=depN_lt (N:=x.D.N)
   have H:=mix_of (n:=depN x.D.N) hn hok.1 hok.2
   have V:=val_of (n:=depN x.D.N) hn hok.1 hok.2
   generalize depN x.D.N=n at *
   generalize hf:depL n x.D.L=fds at *
   generalize hg:mvL (depL n x.M)=mvds at *
   generalize decide (x.D.L.length≤6∧x.M.length≤4)=ok
   refine ⟨_,drossref13_List.spec (by omega) (depOK_one hd) (by simp),(⟨((sN d.L &&& (2^n-1):Nat):Int),((sN d.R &&& (2^n-1):Nat):Int)⟩:api_MVD),rfl,?_⟩
   generalize hq:sN d.L &&& (2^n-1)=q
   generalize hr:sN d.R &&& (2^n-1)=r
   have hqn:q<2^n:=by rw [← hq];exact and_pow
   have hrn:r<2^n:=by rw [← hr];exact and_pow
   have h32:=H.p32
   refine ⟨_,basis_ImpliesFD.spec H V hqn hrn,_,basis_ImpliesMVD.spec H V hqn hrn,_,basis_ImpliesMVD.spec (mix_nil hn) (val_nil hn) hqn hrn,?_⟩
   have ht:=drossref13_Trivial.spec (n:=(n:Int)) (d:=⟨(q:Int),(r:Int)⟩) ⟨U32.of (Nat.lt_of_lt_of_le hqn h32),U32.of (Nat.lt_of_lt_of_le hrn h32)⟩
   rw [if_pos rfl,if_pos rfl,if_pos rfl]
   by_cases hc:ndiff r (cloX n fds mvds q)=0
   ·rw [if_pos (decide_eq_true hc),if_pos (fol_of_clo H hc)]
    refine ⟨_,ht,?_⟩
    rw [beq_iff_eq];exact triv_nil hn hqn hrn
   ·rw [if_neg (by rw [decide_eq_true_eq];exact hc)]
    refine ⟨_,ht,?_⟩
    rw [beq_iff_eq];exact triv_nil hn hqn hrn
  ·rw [if_neg (by rw [decide_eq_true_eq];exact hok)]
   exact again rfl)
 subst e1;exact e2
theorem law {xs:List D} (hx:TyAll env.P drosslaw13_BasisBoth_K drosslaw13_BasisBoth_T xs) (hw:wtL xs≤1048576):Ret env drosslaw13_BasisBoth_F xs (.lit (.bool true)) []:=by
 obtain ⟨x0,x1,h0,h1,e⟩:=drosslaw13_BasisBoth_args (P:=env.P) tf hx
 rw [e] at hw ⊢
 have hlen:x0.D.L.length≤4000000∧x0.M.length≤4000000:=by
  have h1:=wtLL_len (x0.D.L.map enc_drossref09_Dep)
  have h2:=wtLL_len (x0.M.map enc_drossref09_Dep)
  rw [List.length_map] at h1 h2
  simp only [enc_drossref13_Mixed,wtL,wt] at hw
  omega
 exact spec x0 x1 (u8_of h0.1.1) (fun x hx=>⟨u8_of (h0.1.2.2 x hx).1,u8_of (h0.1.2.2 x hx).2⟩) (fun x hx=>⟨u8_of (h0.2.2 x hx).1,u8_of (h0.2.2 x hx).2⟩) hlen.1 hlen.2 ⟨u8_of h1.1,u8_of h1.2⟩
end drosslaw13_BasisBoth
end Go.Own
