/- What the functions that the law reaches answer. No conditions. -/
import Derived.Test.YtmiedlcblpiemaaDoorBasisImpliesLaw12
import Derived.Test.YtmiedlcblpiemaaDoorOwn32
import Derived.Test.YtmiedlcblpiemaaDoorBasisImpliesLaw7
import Derived.Test.YtmiedlcblpiemaaDoorBasisImpliesLaw10
import Derived.Test.YtmiedlcblpiemaaDoorBasisImpliesLaw4
set_option linter.all false
namespace Go.Own
def depL (n:Nat) (L:List drossref09_Dep):List api_FD:=L.map fun x=>{ Lhs:=((sN x.L &&& (2^n-1):Nat):Int),Rhs:=((sN x.R &&& (2^n-1):Nat):Int) }
def DepOK (L:List drossref09_Dep):Prop:=∀ x∈L,(0≤x.L∧x.L<256)∧0≤x.R∧x.R<256
theorem dep_and {x:Int} (h:0≤x∧x<256) {n:Nat} (hn:n≤16):bAnd .u32 (IntKind.wrap .u32 x) ((2^n-1:Nat):Int)=((sN x &&& (2^n-1):Nat):Int):=by
 have hp:=pow16 hn
 have e:x=((sN x:Nat):Int):=by unfold sN;omega
 have e2:IntKind.wrap .u32 x=((sN x:Nat):Int):=by
  conv=>lhs;rw [e]
  exact wrap_top (k:=.u32) (by simp only [top];unfold sN;omega)
 rw [e2]
 exact bAnd_nat (k:=.u32) (by simp only [top];unfold sN;omega) (by simp only [top];omega)
theorem and_pow {x n:Nat}:x &&& (2^n-1)<2^n:=by
 have:=Nat.and_le_right (n:=x) (m:=2^n-1)
 have:0<2^n:=Nat.pow_pos (by omega)
 omega
theorem drossref09_List.spec {n:Nat} {L:List drossref09_Dep} (hn:n≤16) (hL:DepOK L) (hlen:L.length≤4000000):drossref09_List.C n L (depL n L):=by
 obtain ⟨r,h1,h2⟩:=drossref09_List.enter n L (fun r=>r=depL n L) (by
  refine ⟨_,full_spec hn,?_⟩
  have:∀ (r:List drossref09_Dep) (k:Nat),L.drop k=r→k≤L.length→drossref09_List.L1 L ((2^n-1:Nat):Int) (depL n (L.take k)) k (fun r=>r=depL n L):=by
   intro r
   induction r with
   | nil=>
    intro k hd hk
    have:=drop_ge hd
    apply drossref09_List.L1_step
    rw [if_neg (by omega),List.take_of_length_le (by omega)]
   | cons x r ih=>
    intro k hd hk
    have hlt:=drop_lt hd
    have hx:=hL x (List.mem_of_getElem? (drop_get hd))
    have next:=ih (k+1) (drop_next hd) (by omega)
    rw [List.take_add_one,drop_get hd,Option.toList_some] at next
    unfold depL at next
    rw [List.map_append,List.map_cons,List.map_nil] at next
    apply drossref09_List.L1_step
    rw [if_pos (by omega)]
    refine ⟨x,lget_drop hd,?_⟩
    rw [dep_and hx.1 hn,dep_and hx.2 hn,wrap_succ (by omega)]
    exact ⟨by unfold depL;rw [List.length_map,List.length_take];omega,next⟩
  exact this L 0 rfl (Nat.zero_le _))
 rw [← h1];exact h2
def depN (N:Int):Nat:=(N % 7).toNat
theorem depN_lt {N:Int}:depN N≤6:=by unfold depN;omega
theorem drossref09_Of.spec {d:drossref09_Deps} (hN:0≤d.N∧d.N<256) (hL:DepOK d.L) (hlen:d.L.length≤4000000):drossref09_Of.C d (((depN d.N:Nat):Int),depL (depN d.N) d.L,decide ((d.L.length:Int)≤6)):=by
 obtain ⟨r,h1,h2⟩:=drossref09_Of.enter d (fun r=>r=(((depN d.N:Nat):Int),depL (depN d.N) d.L,decide ((d.L.length:Int)≤6))) (by
  have e:IntKind.wrap .i64 (Int.tmod d.N 7)=((depN d.N:Nat):Int):=by
   rw [Int.tmod_eq_emod_of_nonneg hN.1]
   have:d.N % 7=((depN d.N:Nat):Int):=by unfold depN;omega
   rw [this]
   exact wrap_top (k:=.i64) (by simp only [top];have:=depN_lt (N:=d.N);omega)
  rw [e]
  exact ⟨_,drossref09_List.spec (by have:=depN_lt (N:=d.N);omega) hL hlen,rfl⟩)
 rw [← h1];exact h2
theorem wtLL_len:∀ (es:List (List D)),es.length≤wtLL es
 | []=>Nat.le_refl _
 | x::r=>by simp only [wtLL,List.length_cons];have:=wtLL_len r;omega
theorem depL_ok {n:Nat} {L:List drossref09_Dep} (hn:n≤16):FdOK (depL n L):=fun d hd=>by
 obtain ⟨x,_,rfl⟩:=List.mem_map.1 hd
 have hp:=pow16 hn
 exact ⟨U32.of (Nat.lt_of_lt_of_le and_pow (by omega)),U32.of (Nat.lt_of_lt_of_le and_pow (by omega))⟩
theorem depL_len {n:Nat} {L:List drossref09_Dep}:(depL n L).length=L.length:=by simp [depL]
theorem depL_err {n:Nat} {L:List drossref09_Dep} (hn:n≤6) (hl:L.length≤6):errA (n:Int) (depL n L)=0:=by
 have h0:fdsE (n:Int) (depL n L)=0:=by
  unfold fdsE
  rw [if_neg (by omega),if_neg (by rw [depL_len];omega),if_pos]
  rw [List.all_eq_true]
  intro d hd
  obtain ⟨x,_,rfl⟩:=List.mem_map.1 hd
  unfold inU
  rw [sN_nat,sN_nat,Int.toNat_natCast,decide_eq_true and_pow,decide_eq_true and_pow];rfl
 unfold errA
 rw [if_pos h0,if_neg (by omega)]
end Go.Own
namespace Go.Own
structure Mix (n:Nat) (fds:List api_FD) (mvds:List api_MVD):Prop where
 n6:n≤6
 fok:FdOK fds
 mok:MvdOK mvds
 f64:fds.length≤64
 m64:mvds.length≤64
def restN (n x:Nat):Nat:=ndiff (2^n-1) x
theorem pow_lt32 {n:Nat} (hn:n≤16):2^n-1<2^32:=Nat.lt_of_lt_of_le (Nat.sub_lt (Nat.pow_pos (by omega)) (by omega)) (Nat.pow_le_pow_right (by omega) (by omega))
theorem restN_lt {n x:Nat} (hn:n≤16):restN n x<2^n:=Nat.lt_of_le_of_lt ndiff_le (Nat.sub_lt (Nat.pow_pos (by omega)) (by omega))
theorem restN_32 {n x:Nat} (hn:n≤16):restN n x<2^32:=Nat.lt_of_lt_of_le (restN_lt hn) (Nat.pow_le_pow_right (by omega) (by omega))
theorem restN_6 {n x:Nat} (hn:n≤6):restN n x<2^6:=Nat.lt_of_lt_of_le (restN_lt (by omega)) (Nat.pow_le_pow_right (by omega) (by omega))
theorem restN_x {n x:Nat}:restN n x &&& x=0:=and_zero.2 fun i hi=>by
 unfold restN at hi
 rw [ndiff_bit,Bool.and_eq_true,Bool.not_eq_true'] at hi
 exact hi.2
def blk (n:Nat) (fds:List api_FD) (mvds:List api_MVD) (x:Nat):List Nat:=finB (fds.map fN) (mvds.map mN) (restN n x)
structure Chased (n:Nat) (fds:List api_FD) (mvds:List api_MVD) (x live:Nat) (R:List Nat):Prop where
 rows:Rows13 (fds.map fN) (blk n fds mvds x) (restN n x) live R
 done:Closed2 (fds.map fN) (mvds.map mN) fun u=>u∈R
section
variable {n x:Nat} {fds:List api_FD} {mvds:List api_MVD}
theorem Mix.part (h:Mix n fds mvds):BPart (restN n x) (blk n fds mvds x):=(fin_part (restN_32 (by have:=h.n6;omega))).1
theorem Mix.fin (h:Mix n fds mvds):BFin (allMv (fds.map fN) (mvds.map mN)) (blk n fds mvds x):=(fin_part (restN_32 (by have:=h.n6;omega))).2
theorem closed_of {R:List Nat} (h1:∀ d∈fds,FdDone (fN d) R) (h2:∀ m∈mvds,MvDone (mN m) R):Closed2 (fds.map fN) (mvds.map mN) fun u=>u∈R where
 fd d hd r s hr hs ha:=by obtain ⟨f,hf,rfl⟩:=List.mem_map.1 hd;exact h1 f hf r s hr hs ha
 mv m hm r s hr hs ha:=by obtain ⟨f,hf,rfl⟩:=List.mem_map.1 hm;exact h2 f hf r s hr hs ha
def left13 (live:Nat) (R:List Nat):Nat:=live*65+(64-R.length)
namespace drossref13_Chase
theorem loop (H:Mix n fds mvds) {φ:drossref13_Two→Prop} (hφ:∀ live R,Chased n fds mvds x live R→φ ⟨lN R⟩) :
  ∀ (μ live:Nat) (R:List Nat) (b:Bool),Rows13 (fds.map fN) (blk n fds mvds x) (restN n x) live R→left13 live R≤μ→L1 fds mvds (b,⟨lN R⟩) true φ:=by
 have hp:=H.part (x:=x)
 have hf:=H.fin (x:=x)
 have hr6:=restN_6 (x:=x) H.n6
 intro μ
 induction μ using Nat.strongRecOn with
 | _ μ ihμ=>
 intro live R b hR hμ
 have C4:∀ (l:List api_MVD) (j:Nat),mvds.drop j=l→∀ (live:Nat) (R:List Nat) (b ch:Bool),Rows13 (fds.map fN) (blk n fds mvds x) (restN n x) live R→left13 live R≤μ→(ch=true→left13 live R<μ) →
   (ch=false→(∀ d∈fds,FdDone (fN d) R)∧∀ (q:Nat) (m:api_MVD),q<j→mvds[q]? = some m→MvDone (mN m) R)→L4 fds mvds (b,⟨lN R⟩) ch (j:Int) φ:=by
  intro l
  induction l with
  | nil=>
   intro j hj live R b ch hR hμ hch hno
   have:=drop_ge hj
   apply L4_step
   rw [if_neg (by omega)]
   cases ch with
   | true=>exact ihμ _ (hch rfl) live R b hR (Nat.le_refl _)
   | false=>
    apply L1_step
    rw [if_neg (by simp)]
    obtain ⟨h1,h2⟩:=hno rfl
    refine hφ live R ⟨hR,closed_of h1 fun m hm=>?_⟩
    obtain ⟨q,hq⟩:=List.getElem?_of_mem hm
    exact h2 q m (by have:=(List.getElem?_eq_some_iff.1 hq).1;omega) hq
  | cons m l ih=>
   intro j hj live R b ch hR hμ hch hno
   have hlt:=drop_lt hj
   have hm:=drop_get hj
   have hmm:=List.mem_of_getElem? hm
   have h64:=H.m64
   apply L4_step
   rw [if_pos (by omega)]
   refine ⟨m,lget_drop hj,?_⟩
   have hg:=Rows13.grows (live:=live) hp hf hr6 (m:=mN m) (List.mem_map.2 ⟨m,hmm,rfl⟩)
   rcases drossref13_Two_mvd.spec (H.mok m hmm) hg hR with ⟨A,hA,hlen,hc⟩ | ⟨hd,hc⟩
   ·refine ⟨_,hc,?_⟩
    rw [if_pos rfl]
    apply L5_step
    rw [wrap_succ (by omega)]
    have hAl:=hA.len hr6
    have hlt2:left13 live A<left13 live R:=by unfold left13;omega
    exact ih (j+1) (drop_next hj) live A true true hA (by omega) (fun _=>by omega) (fun h=>by cases h)
   ·refine ⟨_,hc,?_⟩
    rw [if_neg (by simp)]
    apply L5_step
    rw [wrap_succ (by omega)]
    refine ih (j+1) (drop_next hj) live R false ch hR hμ hch fun h=>⟨(hno h).1,fun q m' hq hm'=>?_⟩
    by_cases hqj:q=j
    ·subst hqj;rw [hm] at hm';cases hm';exact hd
    ·exact (hno h).2 q m' (by omega) hm'
 have C2:∀ (l:List api_FD) (i:Nat),fds.drop i=l→∀ (live:Nat) (R:List Nat) (b ch:Bool),Rows13 (fds.map fN) (blk n fds mvds x) (restN n x) live R→left13 live R≤μ→(ch=true→left13 live R<μ) →
   (ch=false→∀ (q:Nat) (d:api_FD),q<i→fds[q]? = some d→FdDone (fN d) R)→L2 fds mvds (b,⟨lN R⟩) ch (i:Int) φ:=by
  intro l
  induction l with
  | nil=>
   intro i hi live R b ch hR hμ hch hno
   have:=drop_ge hi
   apply L2_step
   rw [if_neg (by omega)]
   refine C4 mvds 0 rfl live R b ch hR hμ hch fun h=>⟨fun d hd=>?_,fun q m hq=>absurd hq (Nat.not_lt_zero q)⟩
   obtain ⟨q,hq⟩:=List.getElem?_of_mem hd
   exact hno h q d (by have:=(List.getElem?_eq_some_iff.1 hq).1;omega) hq
  | cons d l ih=>
   intro i hi live R b ch hR hμ hch hno
   have hlt:=drop_lt hi
   have hd:=drop_get hi
   have hdm:=List.mem_of_getElem? hd
   have h64:=H.f64
   apply L2_step
   rw [if_pos (by omega)]
   have C3:∀ (live:Nat) (R:List Nat) (b ch:Bool),Rows13 (fds.map fN) (blk n fds mvds x) (restN n x) live R→left13 live R≤μ→(ch=true→left13 live R<μ) →
     (ch=false→∀ (q:Nat) (d:api_FD),q<i→fds[q]? = some d→FdDone (fN d) R)→L3 fds mvds (b,⟨lN R⟩) ch (i:Int) φ:=by
    intro live
    induction live using Nat.strongRecOn with
    | _ live ihl=>
    intro R b ch hR hμ hch hno
    apply L3_step
    refine ⟨d,lget_drop hi,?_⟩
    have hRl:=hR.len hr6
    rcases drossref13_Two_fd.spec (H.fok d hdm) (fun r hr=>Nat.lt_of_lt_of_le (hR.lt hr6 hr) (by decide)) (by omega) with ⟨A,hA,hc⟩ | ⟨hdn,hc⟩
    ·refine ⟨_,hc,?_⟩
     rw [if_pos rfl]
     obtain ⟨live',hl',hA'⟩:=hR.used hp hf hr6 (List.mem_map.2 ⟨d,hdm,rfl⟩) (H.fok d hdm).2.lt hA
     have hAl:=hA'.len hr6
     have hlt2:left13 live' A<left13 live R:=by
      unfold left13
      have:(live'+1)*65≤live*65:=Nat.mul_le_mul_right _ hl'
      omega
     exact ihl live' hl' A true true hA' (by omega) (fun _=>by omega) (fun h=>by cases h)
    ·refine ⟨_,hc,?_⟩
     rw [if_neg (by simp),wrap_succ (by omega)]
     refine ih (i+1) (drop_next hi) live R false ch hR hμ hch fun h q d' hq hd'=>?_
     by_cases hqi:q=i
     ·subst hqi;rw [hd] at hd';cases hd';exact hdn
     ·exact hno h q d' (by omega) hd'
   exact C3 live R b ch hR hμ hch hno
 apply L1_step
 rw [if_pos rfl]
 exact C2 fds 0 rfl live R b false hR hμ (fun h=>by cases h) (fun _ q d hq=>absurd hq (Nat.not_lt_zero q))
theorem spec (H:Mix n fds mvds) (hx:x<2^32):∃ live R,Chased n fds mvds x live R∧C n fds mvds x ⟨lN R⟩:=by
 have hn:=H.n6
 obtain ⟨r,⟨live,R,h1,rfl⟩,h2⟩:=enter n fds mvds x (fun r=>∃ live R,Chased n fds mvds x live R∧r=⟨lN R⟩) (by
  refine ⟨_,full_spec (by omega),?_⟩
  rw [bAndNot_nat (top32 (pow_lt32 (by omega))) (top32 hx)]
  have:=drossref13_Two_put.spec (R:=[0]) (x:=ndiff (2^n-1) x) (by decide)
  refine ⟨_,this,?_⟩
  have hR0:Rows13 (fds.map fN) (blk n fds mvds x) (restN n x) (restN n x) (if ndiff (2^n-1) x∈[0] then [0] else [0]++[ndiff (2^n-1) x]):=by
   have hmem:∀ u,u∈(if ndiff (2^n-1) x∈[0] then [0] else [0]++[ndiff (2^n-1) x])↔u=0∨u=restN n x:=by
    intro u
    unfold restN
    split
    ·rename_i h
     simp only [List.mem_singleton] at h ⊢
     rw [h];simp
    ·simp
   refine ⟨?_,?_⟩
   ·split
    ·simp
    ·rename_i h
     simp only [List.mem_singleton] at h
     simp [Ne.symm h]
   ·constructor
    ·exact (hmem _).2 (.inl rfl)
    ·exact (hmem _).2 (.inr rfl)
    ·intro r hr i hi
     rcases (hmem r).1 hr with rfl | rfl
     ·rw [Nat.zero_testBit] at hi;cases hi
     ·exact hi
    ·exact fun i hi=>hi
    ·intro r hr b hb
     rcases (hmem r).1 hr with rfl | rfl
     ·exact .inl fun i _ _=>Nat.zero_testBit i
     ·exact .inr fun i _ h=>h
    ·intro i h1 h2;rw [h1] at h2;cases h2
  exact loop H (fun live R h=>⟨live,R,h,rfl⟩) _ _ _ _ hR0 (Nat.le_refl _))
 exact ⟨live,R,h1,h2⟩
end drossref13_Chase
theorem Chased.lt {live:Nat} {R:List Nat} (h:Chased n fds mvds x live R) (hn:n≤6) {r:Nat} (hr:r∈R):r<2^n:=h.rows.lt (restN_lt (by omega)) hr
theorem Chased.live_lt {live:Nat} {R:List Nat} (h:Chased n fds mvds x live R) (hn:n≤6):live<2^n:=h.lt hn h.rows.2.top
theorem Chased.len {live:Nat} {R:List Nat} (h:Chased n fds mvds x live R) (hn:n≤6):R.length≤64:=h.rows.len (restN_6 hn)
def orN (R:List Nat) (a:Nat):Nat:=R.foldl (fun a r=>a ||| r) a
theorem orN_bit:∀ {R:List Nat} {a i:Nat},(orN R a).testBit i=(a.testBit i || R.any fun r=>r.testBit i)
 | [],a,i=>by simp [orN]
 | r::R,a,i=>by
  show (orN R (a ||| r)).testBit i=_
  rw [orN_bit,Nat.testBit_or,List.any_cons,Bool.or_assoc]
theorem drossref13_Two_live.spec {R:List Nat} (hR:∀ r∈R,r<2^32) (hl:R.length≤1000):drossref13_Two_live.C ⟨lN R⟩ ((orN R 0:Nat):Int):=by
 obtain ⟨r,h1,h2⟩:=drossref13_Two_live.enter ⟨lN R⟩ (fun r=>r=((orN R 0:Nat):Int)) (by
  have go:∀ (l:List Nat) (i a:Nat),R.drop i=l→a<2^32→orN l a=orN R 0→drossref13_Two_live.L1 ⟨lN R⟩ (a:Int) (i:Int) (fun r=>r=((orN R 0:Nat):Int)):=by
   intro l
   induction l with
   | nil=>
    intro i a hi _ h
    have:=drop_ge hi
    apply drossref13_Two_live.L1_step
    rw [if_neg (by show ¬ (i:Int)<((lN R).length:Int);rw [lN_len];omega)]
    rw [← h];rfl
   | cons r l ih=>
    intro i a hi ha h
    have hlt:=drop_lt hi
    have hr:=drop_get hi
    have hr32:=hR r (List.mem_of_getElem? hr)
    apply drossref13_Two_live.L1_step
    rw [if_pos (by show (i:Int)<((lN R).length:Int);rw [lN_len];omega)]
    refine ⟨_,lN_get hr,?_⟩
    rw [bOr_nat (top32 ha) (top32 hr32),wrap_succ (by omega)]
    exact ih (i+1) _ (drop_next hi) (Nat.or_lt_two_pow ha hr32) h
  exact go R 0 0 rfl (by decide) rfl)
 rw [← h1];exact h2
theorem Chased.orN {live:Nat} {R:List Nat} (h:Chased n fds mvds x live R):orN R 0=live:=by
 apply Nat.eq_of_testBit_eq
 intro i
 rw [orN_bit,Nat.zero_testBit,Bool.false_or,Bool.eq_iff_iff,List.any_eq_true]
 constructor
 ·rintro ⟨r,hr,hi⟩;exact h.rows.2.sub r hr i hi
 ·intro hi;exact ⟨live,h.rows.2.top,hi⟩
theorem Chased.live (h:Mix n fds mvds) {live:Nat} {R:List Nat} (hc:Chased n fds mvds x live R):drossref13_Two_live.C ⟨lN R⟩ (live:Int):=by
 have hn:=h.n6
 have:=drossref13_Two_live.spec (R:=R) (fun r hr=>Nat.lt_of_lt_of_le (hc.lt hn hr) (Nat.pow_le_pow_right (by omega) (by omega))) (by have:=hc.len hn;omega)
 rw [hc.orN] at this;exact this
theorem Mix.f32 (h:Mix n fds mvds):∀ d∈fds.map fN,d.2<2^32:=fun d hd=>by
 obtain ⟨f,hf,rfl⟩:=List.mem_map.1 hd
 exact (h.fok f hf).2.lt
def folX (n:Nat) (fds:List api_FD) (mvds:List api_MVD) (x y:Nat):Bool:=(blk n fds mvds x).all fun b=>decide (b &&& y=0) || decide (ndiff b y=0)
theorem folX_iff {y:Nat}:folX n fds mvds x y=true↔∀ b∈blk n fds mvds x,b &&& y=0∨ndiff b y=0:=by
 unfold folX
 rw [List.all_eq_true]
 exact forall_congr' fun b=>forall_congr' fun _=>by rw [Bool.or_eq_true,decide_eq_true_eq,decide_eq_true_eq]
theorem Chased.fol (h:Mix n fds mvds) {live y:Nat} {R:List Nat} (hc:Chased n fds mvds x live R):ndiff live (x ||| y)∈R↔folX n fds mvds x y=true:=by
 have hn:=h.n6
 rw [folX_iff]
 exact follows_iff (restN_32 (by omega)) restN_x h.f32 hc.rows.2 hc.done y
theorem Chased.in_ (h:Mix n fds mvds) {live y:Nat} {R:List Nat} (hx:x<2^32) (hy:y<2^32) (hc:Chased n fds mvds x live R):drossref02_In.C (lN R) (bAndNot .u32 (live:Int) (bOr .u32 (x:Int) (y:Int))) (folX n fds mvds x y):=by
 have hn:=h.n6
 have hl:live<2^32:=Nat.lt_of_lt_of_le (hc.live_lt hn) (Nat.pow_le_pow_right (by omega) (by omega))
 rw [bOr_nat (top32 hx) (top32 hy),bAndNot_nat (top32 hl) (top32 (Nat.or_lt_two_pow hx hy))]
 have:=drossref02_In.spec (l:=lN R) (x:=((ndiff live (x ||| y):Nat):Int)) (by rw [lN_len];have:=hc.len hn;omega)
 have e:decide (((ndiff live (x ||| y):Nat):Int)∈lN R)=folX n fds mvds x y:=by
  rw [Bool.eq_iff_iff,decide_eq_true_eq,lN_mem];exact hc.fol h
 rw [e] at this;exact this
theorem drossref13_Follows.spec (h:Mix n fds mvds) {y:Nat} (hx:x<2^32) (hy:y<2^32):drossref13_Follows.C n fds mvds x y (folX n fds mvds x y):=by
 obtain ⟨r,h1,h2⟩:=drossref13_Follows.enter n fds mvds x y (fun r=>r=folX n fds mvds x y) (by
  obtain ⟨live,R,hc,hC⟩:=drossref13_Chase.spec (x:=x) h hx
  exact ⟨_,hC,_,hc.live h,_,hc.in_ h hx hy,rfl⟩)
 rw [← h1];exact h2
end
end Go.Own
namespace Go.Own
def errS (n:Int) (l:List api_FD) (m:List api_MVD) (a b:Int):Int:=if basE n l m=0 then (if inU n.toNat a b=true then 0 else 1) else basE n l m
theorem basE_n {n:Int} {l:List api_FD} {m:List api_MVD} (h:basE n l m=0):0≤n∧n≤16:=by
 unfold basE at h
 split at h
 ·rename_i h0;exact fdsE_n h0
 ·rename_i h0;exact absurd h h0
theorem or_self {a:Int} (ha:U32 a):bOr .u32 a a=a:=by
 have:=bOr_nat (k:=.u32) ha.top ha.top
 rw [← ha.eq,Nat.or_self,← ha.eq] at this
 exact this
theorem inU_zero {n:Nat} {a:Int}:inU n a 0=inU n a a:=by
 unfold inU
 have:sN 0<2^n:=Nat.pow_pos (by omega)
 rw [decide_eq_true this,Bool.and_true,Bool.and_self]
theorem basis_check.spec {n:Int} {l:List api_FD} {m:List api_MVD} {a b:Int} (hl:FdOK l) (hm:MvdOK m) (ha:U32 a) (hb:U32 b):basis_check.C n l m (bOr .u32 a b) (errS n l m a b):=by
 obtain ⟨r,h1,h2⟩:=basis_check.enter n l m (bOr .u32 a b) (fun r=>r=errS n l m a b) (by
  refine ⟨_,basis_Valid.spec hl hm,?_⟩
  unfold errS
  by_cases h0:basE n l m=0
  ·rw [if_pos h0,if_pos h0]
   obtain ⟨q,rfl⟩:∃ q:Nat,n=q:=⟨n.toNat,by have:=basE_n h0;omega⟩
   refine ⟨by omega,?_⟩
   have e:=in_or (n:=q) ha hb
   rw [Int.toNat_natCast]
   by_cases h:inU q a b=true
   ·rw [if_pos (e.2 h),if_pos h]
   ·rw [if_neg (fun hh=>h (e.1 hh)),if_neg h]
  ·rw [if_neg h0,if_neg h0])
 rw [← h1];exact h2
theorem basis_check.one {n:Int} {l:List api_FD} {m:List api_MVD} {a:Int} (hl:FdOK l) (hm:MvdOK m) (ha:U32 a):basis_check.C n l m a (errS n l m a 0):=by
 have:=basis_check.spec (n:=n) hl hm ha ha
 rw [or_self ha] at this
 have e:errS n l m a a=errS n l m a 0:=by unfold errS;rw [inU_zero]
 rw [e] at this
 exact this
def mvL (l:List api_FD):List api_MVD:=l.map fun d=>⟨d.Lhs,d.Rhs⟩
theorem mvL_ok {l:List api_FD} (h:FdOK l):MvdOK (mvL l):=fun d hd=>by
 obtain ⟨x,hx,rfl⟩:=List.mem_map.1 hd
 exact h x hx
theorem drossref13_List.spec {n:Nat} {L:List drossref09_Dep} (hn:n≤16) (hL:DepOK L) (hlen:L.length≤4000000):drossref13_List.C n L (mvL (depL n L)):=by
 obtain ⟨r,h1,h2⟩:=drossref13_List.enter n L (fun r=>r=mvL (depL n L)) (by
  refine ⟨_,drossref09_List.spec hn hL hlen,?_⟩
  have hdl:(depL n L).length≤4000000:=by rw [depL_len];exact hlen
  generalize depL n L=x at *
  have go:∀ (r:List api_FD) (k:Nat) (out:List api_MVD),x.drop k=r→out.length≤k→out++mvL r=mvL x→drossref13_List.L1 out x (k:Int) (fun r=>r=mvL x):=by
   intro r
   induction r with
   | nil=>
    intro k out hd hk h
    have:=drop_ge hd
    apply drossref13_List.L1_step
    rw [if_neg (by omega)]
    simpa [mvL] using h
   | cons a r ih=>
    intro k out hd hk h
    have hlt:=drop_lt hd
    apply drossref13_List.L1_step
    rw [if_pos (by omega)]
    refine ⟨a,lget_drop hd,by omega,?_⟩
    rw [wrap_succ (by omega)]
    exact ih (k+1) _ (drop_next hd) (by rw [List.length_append];simp only [List.length_cons,List.length_nil];omega) (by rw [List.append_assoc];exact h)
  exact go x 0 [] rfl (Nat.le_refl 0) rfl)
 rw [← h1];exact h2
end Go.Own
namespace Go.Own
section
variable {n x:Nat} {fds:List api_FD} {mvds:List api_MVD}
def blkL (n:Nat) (fds:List api_FD) (mvds:List api_MVD) (x:Nat):List Int:=ordL (lN (blk n fds mvds x))
theorem Mix.blk_lt (h:Mix n fds mvds) {b:Nat} (hb:b∈blk n fds mvds x):b<2^n:=(h.part (x:=x)).lt (restN_lt (by have:=h.n6;omega)) hb
theorem Mix.p32 (h:Mix n fds mvds):2^n≤2^32:=Nat.pow_le_pow_right (by omega) (by have:=h.n6;omega)
theorem Mix.allU (h:Mix n fds mvds):AllU (lN (blk n fds mvds x)):=fun y hy=>by
 obtain ⟨b,hb,rfl⟩:=List.mem_map.1 hy
 exact U32.of (Nat.lt_of_lt_of_le (h.blk_lt hb) h.p32)
theorem Mix.blkL_mem (h:Mix n fds mvds) {y:Int}:y∈blkL n fds mvds x↔∃ b∈blk n fds mvds x,y=(b:Int):=by
 unfold blkL
 rw [ordL_mem h.allU]
 unfold lN
 rw [List.mem_map]
 exact ⟨fun ⟨b,h1,h2⟩=>⟨b,h1,h2.symm⟩,fun ⟨b,h1,h2⟩=>⟨b,h1,h2.symm⟩⟩
theorem Mix.blkL_len (h:Mix n fds mvds):(blkL n fds mvds x).length≤6:=by
 have h1:=ordL_len (l:=lN (blk n fds mvds x))
 have h2:=(h.part (x:=x)).len (restN_6 h.n6)
 rw [lN_len] at h1
 unfold blkL;omega
def Val (n:Nat) (fds:List api_FD) (mvds:List api_MVD):Prop:=basE (n:Int) fds mvds=0
theorem errS_zero {a b:Nat} (hv:Val n fds mvds) (ha:a<2^n) (hb:b<2^n):errS (n:Int) fds mvds (a:Int) (b:Int)=0:=by
 unfold errS
 have hv:basE (n:Int) fds mvds=0:=hv
 rw [if_pos hv,if_pos]
 unfold inU
 rw [sN_nat,sN_nat,Int.toNat_natCast,decide_eq_true ha,decide_eq_true hb];rfl
theorem basis_check.ok (h:Mix n fds mvds) (hv:Val n fds mvds) (hx:x<2^n):basis_check.C n fds mvds x 0:=by
 have:=basis_check.one (n:=(n:Int)) h.fok h.mok (a:=(x:Int)) (U32.of (Nat.lt_of_lt_of_le hx h.p32))
 have e:errS (n:Int) fds mvds (x:Int) 0=0:=errS_zero (b:=0) hv hx (Nat.pow_pos (by omega))
 rw [e] at this;exact this
theorem basis_check.ok2 (h:Mix n fds mvds) (hv:Val n fds mvds) {y:Nat} (hx:x<2^n) (hy:y<2^n):basis_check.C n fds mvds (bOr .u32 (x:Int) (y:Int)) 0:=by
 have:=basis_check.spec (n:=(n:Int)) h.fok h.mok (a:=(x:Int)) (b:=(y:Int)) (U32.of (Nat.lt_of_lt_of_le hx h.p32)) (U32.of (Nat.lt_of_lt_of_le hy h.p32))
 rw [errS_zero hv hx hy] at this;exact this
theorem basis_blocks.ok (h:Mix n fds mvds) (hx:x<2^n):basis_blocks.C n (allI fds mvds) x (blkL n fds mvds x):=
 basis_blocks.all (by have:=h.n6;omega) (Nat.lt_of_lt_of_le hx h.p32) h.fok h.mok h.f64 h.m64
theorem basis_Basis.spec (h:Mix n fds mvds) (hv:Val n fds mvds) (hx:x<2^n):basis_Basis.C n fds mvds x (blkL n fds mvds x,0):=by
 obtain ⟨r,h1,h2⟩:=basis_Basis.enter n fds mvds x (fun r=>r=(blkL n fds mvds x,0)) ⟨_,basis_check.ok h hv hx,by
  rw [if_pos rfl]
  exact ⟨_,basis_all.spec h.fok h.f64 h.m64,_,basis_blocks.ok h hx,rfl⟩⟩
 rw [← h1];exact h2
theorem div_all (h:Mix n fds mvds) {y:Nat}:(blkL n fds mvds x).all (fun b=>decide (sN b &&& y=0) || decide (ndiff (sN b) y=0))=folX n fds mvds x y:=by
 unfold folX
 rw [Bool.eq_iff_iff,List.all_eq_true,List.all_eq_true]
 constructor
 ·intro hh b hb
  have:=hh (b:Int) (h.blkL_mem.2 ⟨b,hb,rfl⟩)
  rwa [sN_nat] at this
 ·intro hh z hz
  obtain ⟨b,hb,rfl⟩:=h.blkL_mem.1 hz
  rw [sN_nat];exact hh b hb
theorem basis_ImpliesMVD.spec (h:Mix n fds mvds) (hv:Val n fds mvds) {y:Nat} (hx:x<2^n) (hy:y<2^n):basis_ImpliesMVD.C n fds mvds ⟨x,y⟩ (folX n fds mvds x y,0):=by
 obtain ⟨r,h1,h2⟩:=basis_ImpliesMVD.enter n fds mvds ⟨x,y⟩ (fun r=>r=(folX n fds mvds x y,0)) ⟨_,basis_check.ok2 h hv hx hy,by
  rw [if_pos rfl]
  refine ⟨_,basis_all.spec h.fok h.f64 h.m64,_,basis_blocks.ok h hx,?_⟩
  have hlen:=h.blkL_len (x:=x)
  rw [← div_all h]
  generalize hφ:(fun r:Bool×Int=>r=((blkL n fds mvds x).all (fun b=>decide (sN b &&& y=0) || decide (ndiff (sN b) y=0)),(0:Int)))=φ
  have hφ0:φ ((blkL n fds mvds x).all (fun b=>decide (sN b &&& y=0) || decide (ndiff (sN b) y=0)),0):=by rw [← hφ]
  clear hφ
  refine all_loop (l:=blkL n fds mvds x) (p:=fun b=>decide (sN b &&& y=0) || decide (ndiff (sN b) y=0)) (L:=fun i=>basis_ImpliesMVD.L1 ⟨x,y⟩ (blkL n fds mvds x) i φ) (φ:=fun b=>φ (b,(0:Int))) ?_ ?_ hφ0
  ·intro hh;apply basis_ImpliesMVD.L1_step;rw [if_neg (by omega)];exact hh
  ·intro k a ha hk hh
   obtain ⟨b,hb,rfl⟩:=h.blkL_mem.1 (List.mem_of_getElem? ha)
   have hb32:=Nat.lt_of_lt_of_le (h.blk_lt hb) h.p32
   have hy32:=Nat.lt_of_lt_of_le hy h.p32
   rw [sN_nat] at hh
   apply basis_ImpliesMVD.L1_step
   rw [if_pos (by omega)]
   refine ⟨_,lget_of ha,?_⟩
   have next:basis_ImpliesMVD.L1 ⟨x,y⟩ (blkL n fds mvds x) ((k+1:Nat):Int) φ→basis_ImpliesMVD.L2 ⟨x,y⟩ (blkL n fds mvds x) (k:Int) φ:=fun q=>by
    apply basis_ImpliesMVD.L2_step
    rw [wrap_succ (by omega)];exact q
   show (if bAnd .u32 (b:Int) (y:Int)=0 then _ else _)
   rw [bAnd_nat (top32 hb32) (top32 hy32)]
   by_cases h1:b &&& y=0
   ·rw [if_pos (by omega)]
    rw [if_pos (by simp [h1])] at hh
    exact next hh
   ·rw [if_neg (by omega)]
    show (if bAndNot .u32 (b:Int) (y:Int)=0 then _ else _)
    rw [bAndNot_nat (top32 hb32) (top32 hy32)]
    by_cases h2:ndiff b y=0
    ·rw [if_pos (by omega)]
     rw [if_pos (by simp [h2])] at hh
     exact next hh
    ·rw [if_neg (by omega)]
     rw [if_neg (by simp [h1,h2])] at hh
     exact hh⟩
 rw [← h1];exact h2
end
theorem fdsE_dep {n:Nat} {L:List drossref09_Dep} (hn:n≤6) (hl:L.length≤6):fdsE (n:Int) (depL n L)=0:=by
 have:=errA_n (depL_err (n:=n) (L:=L) hn hl)
 exact this.2.2
theorem drossref13_Of.exact {x:drossref13_Mixed} (hN:0≤x.D.N∧x.D.N<256) (hL:DepOK x.D.L) (hM:DepOK x.M) (h1:x.D.L.length≤4000000) (h2:x.M.length≤4000000):drossref13_Of.C x (((depN x.D.N:Nat):Int),depL (depN x.D.N) x.D.L,mvL (depL (depN x.D.N) x.M),decide (x.D.L.length≤6∧x.M.length≤4)):=by
 obtain ⟨r,e1,e2⟩:=drossref13_Of.enter x (fun r=>r=(((depN x.D.N:Nat):Int),depL (depN x.D.N) x.D.L,mvL (depL (depN x.D.N) x.M),decide (x.D.L.length≤6∧x.M.length≤4))) (by
  refine ⟨_,drossref09_Of.spec hN hL h1,_,drossref13_List.spec (by have:=depN_lt (N:=x.D.N);omega) hM h2,?_⟩
  by_cases h6:x.D.L.length≤6
  ·rw [if_pos (by show decide _=true;rw [decide_eq_true_eq];omega)]
   congr 3
   rw [Bool.eq_iff_iff,decide_eq_true_eq,decide_eq_true_eq];omega
  ·rw [if_neg (by show ¬ decide _=true;rw [decide_eq_true_eq];omega)]
   congr 3
   rw [eq_comm,decide_eq_false_iff_not];omega)
 rw [← e1];exact e2
theorem mix_of {n:Nat} {L M:List drossref09_Dep} (hn:n≤6) (hl:L.length≤6) (hm:M.length≤4):Mix n (depL n L) (mvL (depL n M)) where
 n6:=hn
 fok:=depL_ok (by omega)
 mok:=mvL_ok (depL_ok (by omega))
 f64:=by rw [depL_len];omega
 m64:=by unfold mvL;rw [List.length_map,depL_len];omega
theorem val_of {n:Nat} {L M:List drossref09_Dep} (hn:n≤6) (hl:L.length≤6) (hm:M.length≤4):Val n (depL n L) (mvL (depL n M)):=by
 unfold Val basE
 rw [if_pos (fdsE_dep hn hl),if_neg (by unfold mvL;rw [List.length_map,depL_len];omega),if_pos]
 rw [List.all_eq_true]
 intro d hd
 obtain ⟨f,hf,rfl⟩:=List.mem_map.1 hd
 obtain ⟨z,_,rfl⟩:=List.mem_map.1 hf
 unfold inU
 rw [sN_nat,sN_nat,Int.toNat_natCast,decide_eq_true and_pow,decide_eq_true and_pow];rfl
end Go.Own
namespace Go.Own
theorem depOK_one {d:drossref09_Dep} (h:(0≤d.L∧d.L<256)∧0≤d.R∧d.R<256):DepOK [d]:=fun x hx=>by rw [List.mem_singleton.1 hx];exact h
theorem fol_comp {n x y:Nat} {fds:List api_FD} {mvds:List api_MVD} (h:Mix n fds mvds):folX n fds mvds x (ndiff (2^n-1) (x ||| y))=folX n fds mvds x y:=by
 have hp:=h.part (x:=x)
 have key:∀ b∈blk n fds mvds x,∀ i,b.testBit i=true→(ndiff (2^n-1) (x ||| y)).testBit i=!y.testBit i:=by
  intro b hb i hi
  have hr:=(hp.all i).2 ⟨b,hb,hi⟩
  unfold restN at hr
  rw [ndiff_bit,Bool.and_eq_true,Bool.not_eq_true'] at hr
  rw [ndiff_bit,Nat.testBit_or,hr.1,hr.2];simp
 rw [Bool.eq_iff_iff,folX_iff,folX_iff]
 constructor
 ·intro hh b hb
  rcases hh b hb with h0 | h0
  ·refine .inr (ndiff_zero.2 fun i hi=>?_)
   have:=and_zero.1 h0 i hi
   rw [key b hb i hi] at this
   simpa using this
  ·refine .inl (and_zero.2 fun i hi=>?_)
   have:=ndiff_zero.1 h0 i hi
   rw [key b hb i hi] at this
   simpa using this
 ·intro hh b hb
  rcases hh b hb with h0 | h0
  ·refine .inr (ndiff_zero.2 fun i hi=>?_)
   rw [key b hb i hi,and_zero.1 h0 i hi];rfl
  ·refine .inl (and_zero.2 fun i hi=>?_)
   rw [key b hb i hi,ndiff_zero.1 h0 i hi];rfl
namespace drosslaw13_BasisImplies
theorem again {φ:Bool→Prop} (h:φ true):L2 φ:=L2_step φ ⟨true,drosslaw13_awake.spec,h⟩
theorem spec (x:drossref13_Mixed) (d:drossref09_Dep) (hN:0≤x.D.N∧x.D.N<256) (hL:DepOK x.D.L) (hM:DepOK x.M) (h1:x.D.L.length≤4000000) (h2:x.M.length≤4000000) (hd:(0≤d.L∧d.L<256)∧0≤d.R∧d.R<256):C x d true:=by
 obtain ⟨r,e1,e2⟩:=enter x d (fun r=>r=true) (by
  refine ⟨_,drossref13_Of.exact hN hL hM h1 h2,true,drosslaw13_awake.spec,?_⟩
  rw [if_pos rfl]
  by_cases hok:x.D.L.length≤6∧x.M.length≤4
  ·rw [if_pos (decide_eq_true hok)]
   have hn:=depN_lt (N:=x.D.N)
   have H:=mix_of (n:=depN x.D.N) hn hok.1 hok.2
   have V:=val_of (n:=depN x.D.N) hn hok.1 hok.2
   generalize depN x.D.N=n at *
   generalize hf:depL n x.D.L=fds at *
   generalize hg:mvL (depL n x.M)=mvds at *
   generalize decide (x.D.L.length≤6∧x.M.length≤4)=ok
   have b1:fds.length*8≤140737488355328:=by have:=H.f64;omega
   have b2:mvds.length*8≤140737488355328:=by have:=H.m64;omega
   refine ⟨_,drossref13_List.spec (by omega) (depOK_one hd) (by simp),(⟨((sN d.L &&& (2^n-1):Nat):Int),((sN d.R &&& (2^n-1):Nat):Int)⟩:api_MVD),rfl,b1,b2,?_⟩
   generalize hq:sN d.L &&& (2^n-1)=q
   generalize hr:sN d.R &&& (2^n-1)=r
   have hqn:q<2^n:=by rw [← hq];exact and_pow
   have hrn:r<2^n:=by rw [← hr];exact and_pow
   have h32:=H.p32
   have hpos:0<2^n:=Nat.pow_pos (by omega)
   have hcn:ndiff (2^n-1) (q ||| r)<2^n:=Nat.lt_of_le_of_lt ndiff_le (by omega)
   have hcomp:compF (n:Int) ⟨(q:Int),(r:Int)⟩=⟨(q:Int),((ndiff (2^n-1) (q ||| r):Nat):Int)⟩:=by
    unfold compF
    rw [if_neg (by omega),Int.toNat_natCast,full_small (by omega)]
    show (⟨(q:Int),bAndNot .u32 ((2^n-1:Nat):Int) (bOr .u32 (q:Int) (r:Int))⟩:api_MVD)=_
    rw [bOr_nat (top32 (Nat.lt_of_lt_of_le hqn h32)) (top32 (Nat.lt_of_lt_of_le hrn h32)),bAndNot_nat (top32 (pow_lt32 (by omega))) (top32 (Nat.lt_of_lt_of_le (Nat.or_lt_two_pow hqn hrn) h32))]
   have hco:=basis_Complement.spec (n:=(n:Int)) (d:=⟨(q:Int),(r:Int)⟩)
   rw [hcomp] at hco
   refine ⟨_,basis_ImpliesMVD.spec H V hqn hrn,b1,b2,_,hco,_,basis_ImpliesMVD.spec H V hqn hcn,b1,b2,_,basis_Basis.spec H V hqn,?_⟩
   rw [if_pos rfl,if_pos rfl,if_pos rfl,if_pos (fol_comp H).symm]
   refine ⟨_,drossref13_Follows.spec H (Nat.lt_of_lt_of_le hqn h32) (Nat.lt_of_lt_of_le hrn h32),?_⟩
   rw [if_pos rfl]
   have hlen:=H.blkL_len (x:=q)
   have go:∀ (t:List Int) (k:Nat) (u:Bool),(blkL n fds mvds q).drop k=t→(u&&t.all fun b=>decide (sN b &&& r=0) || decide (ndiff (sN b) r=0))=folX n fds mvds q r →
     L1 ⟨(q:Int),(r:Int)⟩ (folX n fds mvds q r,0) (blkL n fds mvds q,0) u (k:Int) (fun r=>r=true):=by
    intro t
    induction t with
    | nil=>
     intro k u hk hu
     have hge:=drop_ge hk
     apply L1_step
     rw [if_neg (by show ¬ (k:Int)<((blkL n fds mvds q).length:Int);omega),beq_iff_eq]
     rw [← hu];simp
    | cons z t ih=>
     intro k u hk hu
     have hlt:=drop_lt hk
     obtain ⟨b,hb,rfl⟩:=H.blkL_mem.1 (List.mem_of_getElem? (drop_get hk))
     have hb32:=Nat.lt_of_lt_of_le (H.blk_lt hb) h32
     have hr32:=Nat.lt_of_lt_of_le hrn h32
     rw [List.all_cons,sN_nat] at hu
     apply L1_step
     rw [if_pos (by show (k:Int)<((blkL n fds mvds q).length:Int);omega)]
     refine ⟨_,lget_drop hk,?_⟩
     have next:∀ u:Bool,(u&&t.all fun b=>decide (sN b &&& r=0) || decide (ndiff (sN b) r=0))=folX n fds mvds q r→L3 ⟨(q:Int),(r:Int)⟩ (folX n fds mvds q r,0) (blkL n fds mvds q,0) u (k:Int) (fun r=>r=true):=fun u hu=>by
      apply L3_step
      rw [wrap_succ (by omega)]
      exact ih (k+1) u (drop_next hk) hu
     cases u with
     | false=>rw [if_neg (by simp)];exact next false (by simpa using hu)
     | true=>
      rw [if_pos rfl]
      show (if bAnd .u32 (b:Int) (r:Int)=0 then _ else _)
      rw [bAnd_nat (top32 hb32) (top32 hr32)]
      by_cases h0:b &&& r=0
      ·rw [if_pos (by omega)]
       exact next true (by simpa [h0] using hu)
      ·rw [if_neg (by omega)]
       show L3 _ _ _ (bAndNot .u32 (b:Int) (r:Int) == 0) _ _
       rw [bAndNot_nat (top32 hb32) (top32 hr32)]
       have e:((((ndiff b r:Nat):Int)) == 0)=decide (ndiff b r=0):=by rw [Bool.eq_iff_iff,beq_iff_eq,decide_eq_true_eq];omega
       rw [e]
       exact next _ (by simpa [h0] using hu)
   exact go _ 0 true rfl (by rw [Bool.true_and];exact div_all H)
  ·rw [if_neg (by rw [decide_eq_true_eq];exact hok)]
   exact again rfl)
 subst e1;exact e2
theorem law {xs:List D} (hx:TyAll env.P drosslaw13_BasisImplies_K drosslaw13_BasisImplies_T xs) (hw:wtL xs≤1048576):Ret env drosslaw13_BasisImplies_F xs (.lit (.bool true)) []:=by
 obtain ⟨x0,x1,h0,h1,e⟩:=drosslaw13_BasisImplies_args (P:=env.P) tf hx
 rw [e] at hw ⊢
 have hlen:x0.D.L.length≤4000000∧x0.M.length≤4000000:=by
  have h1:=wtLL_len (x0.D.L.map enc_drossref09_Dep)
  have h2:=wtLL_len (x0.M.map enc_drossref09_Dep)
  rw [List.length_map] at h1 h2
  simp only [enc_drossref13_Mixed,wtL,wt] at hw
  omega
 exact spec x0 x1 (u8_of h0.1.1) (fun x hx=>⟨u8_of (h0.1.2.2 x hx).1,u8_of (h0.1.2.2 x hx).2⟩) (fun x hx=>⟨u8_of (h0.2.2 x hx).1,u8_of (h0.2.2 x hx).2⟩) hlen.1 hlen.2 ⟨u8_of h1.1,u8_of h1.2⟩
end drosslaw13_BasisImplies
end Go.Own
