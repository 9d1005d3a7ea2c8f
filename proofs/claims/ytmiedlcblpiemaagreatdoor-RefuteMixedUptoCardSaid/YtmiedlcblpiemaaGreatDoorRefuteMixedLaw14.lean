/- What the functions that the law reaches answer. No conditions. -/
import Derived.Test.YtmiedlcblpiemaaGreatDoorRefuteMixedLaw13
import Derived.Test.YtmiedlcblpiemaaGreatDoorOwn32
import Derived.Test.YtmiedlcblpiemaaGreatDoorRefuteMixedLaw5
set_option linter.all false
namespace Go.Own
def depL (n:Nat) (L:List drossref09_Dep):List api_FD:=L.map fun x=>{ Lhs:=((sN x.L &&& (2^n-1):Nat):Int),Rhs:=((sN x.R &&& (2^n-1):Nat):Int) }
def DepOK (L:List drossref09_Dep):Prop:=∀ x∈L,(0≤x.L∧x.L<256)∧0≤x.R∧x.R<256
theorem dep_and {x:Int} (h:0≤x∧x<256) {n:Nat} (hn:n≤16):bAnd .u32 (IntKind.wrap .u32 x) ((2^n-1:Nat):Int)=((sN x &&& (2^n-1):Nat):Int):=by
 have hp:=pow16 hn
 have e:x=((sN x:Nat):Int):=by unfold sN;omega
 have e2:IntKind.wrap .u32 x=((sN x:Nat):Int):=by
  conv=>lhs;rw [e]
  exact wrap_top (k:=.u32) (by simp only [top];unfold sN;omega)
 rw [e2]
 exact bAnd_nat (k:=.u32) (by simp only [top];unfold sN;omega) (by simp only [top];omega)
theorem and_pow {x n:Nat}:x &&& (2^n-1)<2^n:=by
 have:=Nat.and_le_right (n:=x) (m:=2^n-1)
 have:0<2^n:=Nat.pow_pos (by omega)
 omega
theorem drossref09_List.spec {n:Nat} {L:List drossref09_Dep} (hn:n≤16) (hL:DepOK L) (hlen:L.length≤4000000):drossref09_List.C n L (depL n L):=by
 obtain ⟨r,h1,h2⟩:=drossref09_List.enter n L (fun r=>r=depL n L) (by
  refine ⟨_,full_spec hn,?_⟩
  have:∀ (r:List drossref09_Dep) (k:Nat),L.drop k=r→k≤L.length→drossref09_List.L1 L ((2^n-1:Nat):Int) (depL n (L.take k)) k (fun r=>r=depL n L):=by
   intro r
   induction r with
   | nil=>
    intro k hd hk
    have:=drop_ge hd
    apply drossref09_List.L1_step
    rw [if_neg (by omega),List.take_of_length_le (by omega)]
   | cons x r ih=>
    intro k hd hk
    have hlt:=drop_lt hd
    have hx:=hL x (List.mem_of_getElem? (drop_get hd))
    have next:=ih (k+1) (drop_next hd) (by omega)
    rw [List.take_add_one,drop_get hd,Option.toList_some] at next
    unfold depL at next
    rw [List.map_append,List.map_cons,List.map_nil] at next
    apply drossref09_List.L1_step
    rw [if_pos (by omega)]
    refine ⟨x,lget_drop hd,?_⟩
    rw [dep_and hx.1 hn,dep_and hx.2 hn,wrap_succ (by omega)]
    exact ⟨by unfold depL;rw [List.length_map,List.length_take];omega,next⟩
  exact this L 0 rfl (Nat.zero_le _))
 rw [← h1];exact h2
def depN (N:Int):Nat:=(N % 7).toNat
theorem depN_lt {N:Int}:depN N≤6:=by unfold depN;omega
theorem drossref09_Of.spec {d:drossref09_Deps} (hN:0≤d.N∧d.N<256) (hL:DepOK d.L) (hlen:d.L.length≤4000000):drossref09_Of.C d (((depN d.N:Nat):Int),depL (depN d.N) d.L,decide ((d.L.length:Int)≤6)):=by
 obtain ⟨r,h1,h2⟩:=drossref09_Of.enter d (fun r=>r=(((depN d.N:Nat):Int),depL (depN d.N) d.L,decide ((d.L.length:Int)≤6))) (by
  have e:IntKind.wrap .i64 (Int.tmod d.N 7)=((depN d.N:Nat):Int):=by
   rw [Int.tmod_eq_emod_of_nonneg hN.1]
   have:d.N % 7=((depN d.N:Nat):Int):=by unfold depN;omega
   rw [this]
   exact wrap_top (k:=.i64) (by simp only [top];have:=depN_lt (N:=d.N);omega)
  rw [e]
  exact ⟨_,drossref09_List.spec (by have:=depN_lt (N:=d.N);omega) hL hlen,rfl⟩)
 rw [← h1];exact h2
theorem wtLL_len:∀ (es:List (List D)),es.length≤wtLL es
 | []=>Nat.le_refl _
 | x::r=>by simp only [wtLL,List.length_cons];have:=wtLL_len r;omega
theorem depL_ok {n:Nat} {L:List drossref09_Dep} (hn:n≤16):FdOK (depL n L):=fun d hd=>by
 obtain ⟨x,_,rfl⟩:=List.mem_map.1 hd
 have hp:=pow16 hn
 exact ⟨U32.of (Nat.lt_of_lt_of_le and_pow (by omega)),U32.of (Nat.lt_of_lt_of_le and_pow (by omega))⟩
theorem depL_len {n:Nat} {L:List drossref09_Dep}:(depL n L).length=L.length:=by simp [depL]
theorem depL_err {n:Nat} {L:List drossref09_Dep} (hn:n≤6) (hl:L.length≤6):errA (n:Int) (depL n L)=0:=by
 have h0:fdsE (n:Int) (depL n L)=0:=by
  unfold fdsE
  rw [if_neg (by omega),if_neg (by rw [depL_len];omega),if_pos]
  rw [List.all_eq_true]
  intro d hd
  obtain ⟨x,_,rfl⟩:=List.mem_map.1 hd
  unfold inU
  rw [sN_nat,sN_nat,Int.toNat_natCast,decide_eq_true and_pow,decide_eq_true and_pow];rfl
 unfold errA
 rw [if_pos h0,if_neg (by omega)]
structure Mix (n:Nat) (fds:List api_FD) (mvds:List api_MVD):Prop where
 n6:n≤6
 fok:FdOK fds
 mok:MvdOK mvds
 f64:fds.length≤64
 m64:mvds.length≤64
def restN (n x:Nat):Nat:=ndiff (2^n-1) x
theorem pow_lt32 {n:Nat} (hn:n≤16):2^n-1<2^32:=Nat.lt_of_lt_of_le (Nat.sub_lt (Nat.pow_pos (by omega)) (by omega)) (Nat.pow_le_pow_right (by omega) (by omega))
theorem restN_lt {n x:Nat} (hn:n≤16):restN n x<2^n:=Nat.lt_of_le_of_lt ndiff_le (Nat.sub_lt (Nat.pow_pos (by omega)) (by omega))
theorem restN_32 {n x:Nat} (hn:n≤16):restN n x<2^32:=Nat.lt_of_lt_of_le (restN_lt hn) (Nat.pow_le_pow_right (by omega) (by omega))
theorem restN_6 {n x:Nat} (hn:n≤6):restN n x<2^6:=Nat.lt_of_lt_of_le (restN_lt (by omega)) (Nat.pow_le_pow_right (by omega) (by omega))
theorem restN_x {n x:Nat}:restN n x &&& x=0:=and_zero.2 fun i hi=>by
 unfold restN at hi
 rw [ndiff_bit,Bool.and_eq_true,Bool.not_eq_true'] at hi
 exact hi.2
def blk (n:Nat) (fds:List api_FD) (mvds:List api_MVD) (x:Nat):List Nat:=finB (fds.map fN) (mvds.map mN) (restN n x)
structure Chased (n:Nat) (fds:List api_FD) (mvds:List api_MVD) (x live:Nat) (R:List Nat):Prop where
 rows:Rows13 (fds.map fN) (blk n fds mvds x) (restN n x) live R
 done:Closed2 (fds.map fN) (mvds.map mN) fun u=>u∈R
section
variable {n x:Nat} {fds:List api_FD} {mvds:List api_MVD}
theorem Mix.part (h:Mix n fds mvds):BPart (restN n x) (blk n fds mvds x):=(fin_part (restN_32 (by have:=h.n6;omega))).1
theorem Mix.fin (h:Mix n fds mvds):BFin (allMv (fds.map fN) (mvds.map mN)) (blk n fds mvds x):=(fin_part (restN_32 (by have:=h.n6;omega))).2
theorem closed_of {R:List Nat} (h1:∀ d∈fds,FdDone (fN d) R) (h2:∀ m∈mvds,MvDone (mN m) R):Closed2 (fds.map fN) (mvds.map mN) fun u=>u∈R where
 fd d hd r s hr hs ha:=by obtain ⟨f,hf,rfl⟩:=List.mem_map.1 hd;exact h1 f hf r s hr hs ha
 mv m hm r s hr hs ha:=by obtain ⟨f,hf,rfl⟩:=List.mem_map.1 hm;exact h2 f hf r s hr hs ha
def left13 (live:Nat) (R:List Nat):Nat:=live*65+(64-R.length)
namespace drossref13_Chase
theorem loop (H:Mix n fds mvds) {φ:drossref13_Two→Prop} (hφ:∀ live R,Chased n fds mvds x live R→φ ⟨lN R⟩) :
  ∀ (μ live:Nat) (R:List Nat) (b:Bool),Rows13 (fds.map fN) (blk n fds mvds x) (restN n x) live R→left13 live R≤μ→L1 fds mvds (b,⟨lN R⟩) true φ:=by
 have hp:=H.part (x:=x)
 have hf:=H.fin (x:=x)
 have hr6:=restN_6 (x:=x) H.n6
 intro μ
 induction μ using Nat.strongRecOn with
 | _ μ ihμ=>
 intro live R b hR hμ
 have C4:∀ (l:List api_MVD) (j:Nat),mvds.drop j=l→∀ (live:Nat) (R:List Nat) (b ch:Bool),Rows13 (fds.map fN) (blk n fds mvds x) (restN n x) live R→left13 live R≤μ→(ch=true→left13 live R<μ) →
   (ch=false→(∀ d∈fds,FdDone (fN d) R)∧∀ (q:Nat) (m:api_MVD),q<j→mvds[q]? = some m→MvDone (mN m) R)→L4 fds mvds (b,⟨lN R⟩) ch (j:Int) φ:=by
  intro l
  induction l with
  | nil=>
   intro j hj live R b ch hR hμ hch hno
   have:=drop_ge hj
   apply L4_step
   rw [if_neg (by omega)]
   cases ch with
   | true=>exact ihμ _ (hch rfl) live R b hR (Nat.le_refl _)
   | false=>
    apply L1_step
    rw [if_neg (by simp)]
    obtain ⟨h1,h2⟩:=hno rfl
    refine hφ live R ⟨hR,closed_of h1 fun m hm=>?_⟩
    obtain ⟨q,hq⟩:=List.getElem?_of_mem hm
    exact h2 q m (by have:=(List.getElem?_eq_some_iff.1 hq).1;omega) hq
  | cons m l ih=>
   intro j hj live R b ch hR hμ hch hno
   have hlt:=drop_lt hj
   have hm:=drop_get hj
   have hmm:=List.mem_of_getElem? hm
   have h64:=H.m64
   apply L4_step
   rw [if_pos (by omega)]
   refine ⟨m,lget_drop hj,?_⟩
   have hg:=Rows13.grows (live:=live) hp hf hr6 (m:=mN m) (List.mem_map.2 ⟨m,hmm,rfl⟩)
   rcases drossref13_Two_mvd.spec (H.mok m hmm) hg hR with ⟨A,hA,hlen,hc⟩ | ⟨hd,hc⟩
   ·refine ⟨_,hc,?_⟩
    rw [if_pos rfl]
    apply L5_step
    rw [wrap_succ (by omega)]
    have hAl:=hA.len hr6
    have hlt2:left13 live A<left13 live R:=by unfold left13;omega
    exact ih (j+1) (drop_next hj) live A true true hA (by omega) (fun _=>by omega) (fun h=>by cases h)
   ·refine ⟨_,hc,?_⟩
    rw [if_neg (by simp)]
    apply L5_step
    rw [wrap_succ (by omega)]
    refine ih (j+1) (drop_next hj) live R false ch hR hμ hch fun h=>⟨(hno h).1,fun q m' hq hm'=>?_⟩
    by_cases hqj:q=j
    ·subst hqj;rw [hm] at hm';cases hm';exact hd
    ·exact (hno h).2 q m' (by omega) hm'
 have C2:∀ (l:List api_FD) (i:Nat),fds.drop i=l→∀ (live:Nat) (R:List Nat) (b ch:Bool),Rows13 (fds.map fN) (blk n fds mvds x) (restN n x) live R→left13 live R≤μ→(ch=true→left13 live R<μ) →
   (ch=false→∀ (q:Nat) (d:api_FD),q<i→fds[q]? = some d→FdDone (fN d) R)→L2 fds mvds (b,⟨lN R⟩) ch (i:Int) φ:=by
  intro l
  induction l with
  | nil=>
   intro i hi live R b ch hR hμ hch hno
   have:=drop_ge hi
   apply L2_step
   rw [if_neg (by omega)]
   refine C4 mvds 0 rfl live R b ch hR hμ hch fun h=>⟨fun d hd=>?_,fun q m hq=>absurd hq (Nat.not_lt_zero q)⟩
   obtain ⟨q,hq⟩:=List.getElem?_of_mem hd
   exact hno h q d (by have:=(List.getElem?_eq_some_iff.1 hq).1;omega) hq
  | cons d l ih=>
   intro i hi live R b ch hR hμ hch hno
   have hlt:=drop_lt hi
   have hd:=drop_get hi
   have hdm:=List.mem_of_getElem? hd
   have h64:=H.f64
   apply L2_step
   rw [if_pos (by omega)]
   have C3:∀ (live:Nat) (R:List Nat) (b ch:Bool),Rows13 (fds.map fN) (blk n fds mvds x) (restN n x) live R→left13 live R≤μ→(ch=true→left13 live R<μ) →
     (ch=false→∀ (q:Nat) (d:api_FD),q<i→fds[q]? = some d→FdDone (fN d) R)→L3 fds mvds (b,⟨lN R⟩) ch (i:Int) φ:=by
    intro live
    induction live using Nat.strongRecOn with
    | _ live ihl=>
    intro R b ch hR hμ hch hno
    apply L3_step
    refine ⟨d,lget_drop hi,?_⟩
    have hRl:=hR.len hr6
    rcases drossref13_Two_fd.spec (H.fok d hdm) (fun r hr=>Nat.lt_of_lt_of_le (hR.lt hr6 hr) (by decide)) (by omega) with ⟨A,hA,hc⟩ | ⟨hdn,hc⟩
    ·refine ⟨_,hc,?_⟩
     rw [if_pos rfl]
     obtain ⟨live',hl',hA'⟩:=hR.used hp hf hr6 (List.mem_map.2 ⟨d,hdm,rfl⟩) (H.fok d hdm).2.lt hA
     have hAl:=hA'.len hr6
     have hlt2:left13 live' A<left13 live R:=by
      unfold left13
      have:(live'+1)*65≤live*65:=Nat.mul_le_mul_right _ hl'
      omega
     exact ihl live' hl' A true true hA' (by omega) (fun _=>by omega) (fun h=>by cases h)
    ·refine ⟨_,hc,?_⟩
     rw [if_neg (by simp),wrap_succ (by omega)]
     refine ih (i+1) (drop_next hi) live R false ch hR hμ hch fun h q d' hq hd'=>?_
     by_cases hqi:q=i
     ·subst hqi;rw [hd] at hd';cases hd';exact hdn
     ·exact hno h q d' (by omega) hd'
   exact C3 live R b ch hR hμ hch hno
 apply L1_step
 rw [if_pos rfl]
 exact C2 fds 0 rfl live R b false hR hμ (fun h=>by cases h) (fun _ q d hq=>absurd hq (Nat.not_lt_zero q))
theorem spec (H:Mix n fds mvds) (hx:x<2^32):∃ live R,Chased n fds mvds x live R∧C n fds mvds x ⟨lN R⟩:=by
 have hn:=H.n6
 obtain ⟨r,⟨live,R,h1,rfl⟩,h2⟩:=enter n fds mvds x (fun r=>∃ live R,Chased n fds mvds x live R∧r=⟨lN R⟩) (by
  refine ⟨_,full_spec (by omega),?_⟩
  rw [bAndNot_nat (top32 (pow_lt32 (by omega))) (top32 hx)]
  have:=drossref13_Two_put.spec (R:=[0]) (x:=ndiff (2^n-1) x) (by decide)
  refine ⟨_,this,?_⟩
  have hR0:Rows13 (fds.map fN) (blk n fds mvds x) (restN n x) (restN n x) (if ndiff (2^n-1) x∈[0] then [0] else [0]++[ndiff (2^n-1) x]):=by
   have hmem:∀ u,u∈(if ndiff (2^n-1) x∈[0] then [0] else [0]++[ndiff (2^n-1) x])↔u=0∨u=restN n x:=by
    intro u
    unfold restN
    split
    ·rename_i h
     simp only [List.mem_singleton] at h ⊢
     rw [h];simp
    ·simp
   refine ⟨?_,?_⟩
   ·split
    ·simp
    ·rename_i h
     simp only [List.mem_singleton] at h
     simp [Ne.symm h]
   ·constructor
    ·exact (hmem _).2 (.inl rfl)
    ·exact (hmem _).2 (.inr rfl)
    ·intro r hr i hi
     rcases (hmem r).1 hr with rfl | rfl
     ·rw [Nat.zero_testBit] at hi;cases hi
     ·exact hi
    ·exact fun i hi=>hi
    ·intro r hr b hb
     rcases (hmem r).1 hr with rfl | rfl
     ·exact .inl fun i _ _=>Nat.zero_testBit i
     ·exact .inr fun i _ h=>h
    ·intro i h1 h2;rw [h1] at h2;cases h2
  exact loop H (fun live R h=>⟨live,R,h,rfl⟩) _ _ _ _ hR0 (Nat.le_refl _))
 exact ⟨live,R,h1,h2⟩
end drossref13_Chase
theorem Chased.lt {live:Nat} {R:List Nat} (h:Chased n fds mvds x live R) (hn:n≤6) {r:Nat} (hr:r∈R):r<2^n:=h.rows.lt (restN_lt (by omega)) hr
theorem Chased.live_lt {live:Nat} {R:List Nat} (h:Chased n fds mvds x live R) (hn:n≤6):live<2^n:=h.lt hn h.rows.2.top
theorem Chased.len {live:Nat} {R:List Nat} (h:Chased n fds mvds x live R) (hn:n≤6):R.length≤64:=h.rows.len (restN_6 hn)
def orN (R:List Nat) (a:Nat):Nat:=R.foldl (fun a r=>a ||| r) a
theorem orN_bit:∀ {R:List Nat} {a i:Nat},(orN R a).testBit i=(a.testBit i || R.any fun r=>r.testBit i)
 | [],a,i=>by simp [orN]
 | r::R,a,i=>by
  show (orN R (a ||| r)).testBit i=_
  rw [orN_bit,Nat.testBit_or,List.any_cons,Bool.or_assoc]
theorem drossref13_Two_live.spec {R:List Nat} (hR:∀ r∈R,r<2^32) (hl:R.length≤1000):drossref13_Two_live.C ⟨lN R⟩ ((orN R 0:Nat):Int):=by
 obtain ⟨r,h1,h2⟩:=drossref13_Two_live.enter ⟨lN R⟩ (fun r=>r=((orN R 0:Nat):Int)) (by
  have go:∀ (l:List Nat) (i a:Nat),R.drop i=l→a<2^32→orN l a=orN R 0→drossref13_Two_live.L1 ⟨lN R⟩ (a:Int) (i:Int) (fun r=>r=((orN R 0:Nat):Int)):=by
   intro l
   induction l with
   | nil=>
    intro i a hi _ h
    have:=drop_ge hi
    apply drossref13_Two_live.L1_step
    rw [if_neg (by show ¬ (i:Int)<((lN R).length:Int);rw [lN_len];omega)]
    rw [← h];rfl
   | cons r l ih=>
    intro i a hi ha h
    have hlt:=drop_lt hi
    have hr:=drop_get hi
    have hr32:=hR r (List.mem_of_getElem? hr)
    apply drossref13_Two_live.L1_step
    rw [if_pos (by show (i:Int)<((lN R).length:Int);rw [lN_len];omega)]
    refine ⟨_,lN_get hr,?_⟩
    rw [bOr_nat (top32 ha) (top32 hr32),wrap_succ (by omega)]
    exact ih (i+1) _ (drop_next hi) (Nat.or_lt_two_pow ha hr32) h
  exact go R 0 0 rfl (by decide) rfl)
 rw [← h1];exact h2
theorem Chased.orN {live:Nat} {R:List Nat} (h:Chased n fds mvds x live R):orN R 0=live:=by
 apply Nat.eq_of_testBit_eq
 intro i
 rw [orN_bit,Nat.zero_testBit,Bool.false_or,Bool.eq_iff_iff,List.any_eq_true]
 constructor
 ·rintro ⟨r,hr,hi⟩;exact h.rows.2.sub r hr i hi
 ·intro hi;exact ⟨live,h.rows.2.top,hi⟩
theorem Chased.live (h:Mix n fds mvds) {live:Nat} {R:List Nat} (hc:Chased n fds mvds x live R):drossref13_Two_live.C ⟨lN R⟩ (live:Int):=by
 have hn:=h.n6
 have:=drossref13_Two_live.spec (R:=R) (fun r hr=>Nat.lt_of_lt_of_le (hc.lt hn hr) (Nat.pow_le_pow_right (by omega) (by omega))) (by have:=hc.len hn;omega)
 rw [hc.orN] at this;exact this
theorem Mix.f32 (h:Mix n fds mvds):∀ d∈fds.map fN,d.2<2^32:=fun d hd=>by
 obtain ⟨f,hf,rfl⟩:=List.mem_map.1 hd
 exact (h.fok f hf).2.lt
def cloX (n:Nat) (fds:List api_FD) (mvds:List api_MVD) (x:Nat):Nat:=ofBits (fun i=>x.testBit i || decide (2^i∈blk n fds mvds x∧∃ d∈fds.map fN,d.2.testBit i=true∧d.1.testBit i=false)) n
theorem cloX_lt:cloX n fds mvds x<2^n:=ofBits_lt n
theorem Chased.clo (h:Mix n fds mvds) (hx:x<2^n) {live:Nat} {R:List Nat} (hc:Chased n fds mvds x live R):ndiff (2^n-1) live=cloX n fds mvds x:=by
 have hn:=h.n6
 apply Nat.eq_of_testBit_eq
 intro i
 unfold cloX
 rw [ofBits_bit,ndiff_bit,Nat.testBit_two_pow_sub_one]
 by_cases hi:i<n
 ·simp only [hi,decide_true,Bool.true_and]
  have hl:=live_iff (restN_32 (by omega)) restN_x h.f32 hc.rows.2 hc.done i
  have hrest:(restN n x).testBit i=!x.testBit i:=by
   unfold restN
   rw [ndiff_bit,Nat.testBit_two_pow_sub_one]
   simp [hi]
  rw [hrest,Bool.not_eq_true'] at hl
  cases hxi:x.testBit i with
  | true=>
   have:live.testBit i=false:=by
    cases hq:live.testBit i with
    | false=>rfl
    | true=>
     have:=hc.rows.2.lsub i hq
     rw [hrest,hxi] at this;cases this
   rw [this];rfl
  | false=>
   rw [Bool.false_or,Bool.eq_iff_iff,Bool.not_eq_true',decide_eq_true_eq]
   constructor
   ·intro hq;exact hl.1 ⟨hxi,hq⟩
   ·intro hq;exact (hl.2 hq).2
 ·simp [hi]
theorem drossref13_Close.spec (h:Mix n fds mvds) (hx:x<2^n):drossref13_Close.C n fds mvds x ((cloX n fds mvds x:Nat):Int):=by
 have hn:=h.n6
 obtain ⟨r,h1,h2⟩:=drossref13_Close.enter n fds mvds x (fun r=>r=((cloX n fds mvds x:Nat):Int)) (by
  obtain ⟨live,R,hc,hC⟩:=drossref13_Chase.spec (x:=x) h (Nat.lt_of_lt_of_le hx (Nat.pow_le_pow_right (by omega) (by omega)))
  refine ⟨_,full_spec (by omega),_,hC,_,hc.live h,?_⟩
  rw [bAndNot_nat (top32 (pow_lt32 (by omega))) (top32 (Nat.lt_of_lt_of_le (hc.live_lt hn) (Nat.pow_le_pow_right (by omega) (by omega)))),hc.clo h hx])
 rw [← h1];exact h2
end
def bltR (n:Nat):List Nat→Nat→List api_Row
 | [],_=>[]
 | r::R,k=>⟨((k+1:Nat):Int),rowV n r⟩::bltR n R (k+1)
theorem bltR_len {n:Nat}:∀ {R:List Nat} {k:Nat},(bltR n R k).length=R.length
 | [],_=>rfl
 | r::R,k=>by simp only [bltR,List.length_cons];rw [bltR_len]
theorem bltR_get {n:Nat}:∀ {R:List Nat} {k i:Nat},(bltR n R k)[i]? = R[i]?.map fun r=>(⟨((k+i+1:Nat):Int),rowV n r⟩:api_Row)
 | [],_,i=>by simp [bltR]
 | r::R,k,0=>by simp [bltR]
 | r::R,k,i+1=>by
  simp only [bltR,List.getElem?_cons_succ]
  rw [bltR_get,show k+1+i+1=k+(i+1)+1 by omega]
def bltT (n:Nat) (R:List Nat):api_Table:=⟨⟨#[116]⟩,abcK.take n,bltR n R 0⟩
theorem refute_build.all {n:Nat} {R:List Nat} (hn:n≤16) (hR:∀ r∈R,r<2^32) (hl:R.length≤1000):refute_build.C n (lN R) (bltT n R):=by
 obtain ⟨r,h1,h2⟩:=refute_build.enter n (lN R) (fun r=>r=bltT n R) (by
  have rows:∀ (l:List Nat) (k:Nat) (acc:List api_Row),R.drop k=l→acc.length=k→acc++bltR n l k=bltR n R 0→refute_build.L2 n (lN R) (abcK.take n) acc (k:Int) (fun r=>r=bltT n R):=by
   intro l
   induction l with
   | nil=>
    intro k acc hk _ ha
    have:=drop_ge hk
    apply refute_build.L2_step
    rw [if_neg (by rw [lN_len];omega)]
    unfold bltT
    rw [← ha];simp [bltR]
   | cons a l ih=>
    intro k acc hk hac ha
    have hlt:=drop_lt hk
    have hg:=drop_get hk
    apply refute_build.L2_step
    rw [if_pos (by rw [lN_len];omega)]
    refine ⟨_,lN_get hg,?_⟩
    rw [wrap_succ (by omega)]
    refine refute_build.cells (m:=a) (k:=k) (rows:=acc) hn (hR a (List.mem_of_getElem? hg)) (by omega) (by omega) ?_ n 0 (by omega)
    refine ih (k+1) _ (drop_next hk) (by simp [hac]) ?_
    rw [← ha]
    simp [bltR]
  have:∀ (d i:Nat),d+i=n→refute_build.L1 n (lN R) (abcK.take i) i (fun r=>r=bltT n R):=by
   intro d
   induction d with
   | zero=>
    intro i hd
    have:i=n:=by omega
    subst this
    apply refute_build.L1_step
    rw [if_neg (by omega)]
    exact rows R 0 [] rfl rfl rfl
   | succ d ih=>
    intro i hd
    have next:=ih (i+1) (by omega)
    rw [abcK_take (by omega),← abcK_enc ⟨i,by omega⟩] at next
    apply refute_build.L1_step
    rw [if_pos (by omega),wrap_succ (by omega)]
    exact ⟨by rw [abcK_len (by omega)];omega,next⟩
  exact this n 0 rfl)
 rw [← h1];exact h2
section
variable {n:Nat} {R:List Nat}
theorem bld_rows (n:Nat):∀ (R:List Nat) (k:Nat) (last:Int),last≤k→rowsF n last (bltR n R k)=0
 | [],_,_,_=>rfl
 | r::R,k,last,h=>by
  simp only [bltR]
  rw [rowsF,if_neg (by show ¬ ((k+1:Nat):Int)≤last;omega),if_pos rowV_len,if_pos rowV_valid]
  exact bld_rows n R (k+1) _ (by show ((k+1:Nat):Int)≤_;omega)
theorem bltT_len:(bltT n R).Rows.length=R.length:=bltR_len
theorem bltT_na (hn:n≤16):(bltT n R).Attrs.length=n:=abcK_len hn
theorem bltT_TV (hn:n≤16) (hl:R.length≤1000):TV (bltT n R) where
 name:=name20 (by decide)
 na:=by rw [bltT_na hn];exact hn
 nr:=by rw [bltT_len];exact hl
 names:=abcK_names
 rows:=by rw [bltT_na hn];exact bld_rows n R 0 0 (Int.le_refl _)
theorem bltT_eqA {i k r s a:Nat} (hi:R[i]? = some r) (hk:R[k]? = some s) (ha:a<n):EqA (bltT n R) i k a↔r.testBit a=s.testBit a:=by
 unfold EqA bltT
 show ((bltR n R 0)[i]?.map fun r=>r.Values[a]?)=((bltR n R 0)[k]?.map fun r=>r.Values[a]?)↔_
 rw [bltR_get,bltR_get,hi,hk]
 show some ((rowV n r)[a]?)=some ((rowV n s)[a]?)↔_
 rw [rowV_get ha,rowV_get ha]
 cases r.testBit a<;>cases s.testBit a<;>simp [bitV]
theorem get_lt {i:Nat} (h:i<R.length):∃ r,R[i]? = some r∧r∈R:=⟨R[i],List.getElem?_eq_getElem h,List.getElem_mem h⟩
theorem bltT_agree {l i k r s:Nat} (hl:l<2^n) (hi:R[i]? = some r) (hk:R[k]? = some s):(∀ a,l.testBit a=true→EqA (bltT n R) i k a)↔agreeR l r s:=
 forall_congr' fun a=>forall_congr' fun ha=>bltT_eqA hi hk (lt_iff.1 hl a ha)
theorem bltT_sat {l r:Nat} (hn:n≤16) (hlen:R.length≤1000) (hl:l<2^n) (hr:r<2^n):SatP (bltT n R) l r↔∀ u v,u∈R→v∈R→agreeR l u v→agreeR r u v:=by
 have hp:=pow16 hn
 rw [sat_iff (bltT_TV hn hlen) (by omega) (by omega),bltT_len]
 constructor
 ·intro h u v hu hv ha
  obtain ⟨i,hi⟩:=List.getElem?_of_mem hu
  obtain ⟨k,hk⟩:=List.getElem?_of_mem hv
  have hil:=(List.getElem?_eq_some_iff.1 hi).1
  have hkl:=(List.getElem?_eq_some_iff.1 hk).1
  rcases Nat.lt_trichotomy k i with hlt | he | hlt
  ·exact (bltT_agree hr hi hk).1 (h i k hil hlt ((bltT_agree hl hi hk).2 ha))
  ·subst he;rw [hi] at hk;cases hk;exact fun _ _=>rfl
  ·exact fun b hb=>((bltT_agree hr hk hi).1 (h k i hkl hlt ((bltT_agree hl hk hi).2 fun b hb=>(ha b hb).symm)) b hb).symm
 ·intro h i k hi hk e
  obtain ⟨u,hu,hum⟩:=get_lt hi
  obtain ⟨v,hv,hvm⟩:=get_lt (R:=R) (i:=k) (by omega)
  exact (bltT_agree hr hu hv).2 (h u v hum hvm ((bltT_agree hl hu hv).1 e))
theorem bltT_mv {m:Nat×Nat} (hn:n≤16) (hl:m.1<2^n) (hr:m.2<2^n) (h:∀ u v,u∈R→v∈R→agreeR m.1 u v→mixR m u v∈R):MvP (bltT n R) m.1 m.2:=by
 intro i k hi hk e
 rw [bltT_len] at hi hk
 obtain ⟨u,hu,hum⟩:=get_lt hi
 obtain ⟨v,hv,hvm⟩:=get_lt hk
 obtain ⟨j,hj⟩:=List.getElem?_of_mem (h u v hum hvm ((bltT_agree hl hu hv).1 e))
 refine ⟨j,by rw [bltT_len];exact (List.getElem?_eq_some_iff.1 hj).1,fun a ha=>?_,fun a ha hb=>?_⟩
 ·rw [bltT_eqA hj hu (lt_iff.1 (Nat.or_lt_two_pow hl hr) a ha),mixR_bit,if_pos ha]
 ·rw [bltT_na hn] at ha
  rw [bltT_eqA hj hv ha,mixR_bit,if_neg (by rw [hb];simp)]
end
theorem drossref20_Right.both {t:api_Table} (ht:TV t) {l:List api_FD} {ms:List api_MVD} (hl:FdOK l) (hm:MvdOK ms) (hlen:l.length<1000000000) (hlen2:ms.length<1000000000) (h1:∀ d∈l,SatP t (sN d.Lhs) (sN d.Rhs)) (h2:∀ m∈ms,inU t.Attrs.length m.Lhs m.Rhs=true∧MvP t (sN m.Lhs) (sN m.Rhs)):drossref20_Right.C t l ms true:=by
 obtain ⟨r,e1,e2⟩:=drossref20_Right.enter t l ms (fun r=>r=true) (by
  have second:∀ (r:List api_MVD) (k:Nat),ms.drop k=r→drossref20_Right.L2 t ms (k:Int) (fun r=>r=true):=by
   intro r
   induction r with
   | nil=>
    intro k hk
    have:=drop_ge hk
    apply drossref20_Right.L2_step
    rw [if_neg (by omega)]
   | cons m r ih=>
    intro k hk
    have hlt:=drop_lt hk
    have hmm:=List.mem_of_getElem? (drop_get hk)
    apply drossref20_Right.L2_step
    rw [if_pos (by omega)]
    refine ⟨m,lget_drop hk,_,drossref13_Holds.spec ht (hm m hmm).1 (hm m hmm).2,?_⟩
    have e:(holdsF t m).1=true:=by
     unfold holdsF
     rw [if_pos (h2 m hmm).1]
     exact mvB_iff.2 (h2 m hmm).2
    rw [if_pos e,wrap_succ (by omega)]
    exact ih (k+1) (drop_next hk)
  have first:∀ (r:List api_FD) (k:Nat),l.drop k=r→drossref20_Right.L1 t l ms (k:Int) (fun r=>r=true):=by
   intro r
   induction r with
   | nil=>
    intro k hk
    have:=drop_ge hk
    apply drossref20_Right.L1_step
    rw [if_neg (by omega)]
    exact second ms 0 rfl
   | cons d r ih=>
    intro k hk
    have hlt:=drop_lt hk
    have hdm:=List.mem_of_getElem? (drop_get hk)
    obtain ⟨b,hb,hi⟩:=drossref08_sat ht (hl d hdm).1 (hl d hdm).2
    apply drossref20_Right.L1_step
    rw [if_pos (by omega)]
    refine ⟨d,lget_drop hk,b,hb,?_⟩
    rw [if_pos (hi.2 (h1 d hdm)),wrap_succ (by omega)]
    exact ih (k+1) (drop_next hk)
  exact first l 0 rfl)
 rw [← e1];exact e2
def errS (n:Int) (l:List api_FD) (m:List api_MVD) (a b:Int):Int:=if basE n l m=0 then (if inU n.toNat a b=true then 0 else 1) else basE n l m
theorem basE_n {n:Int} {l:List api_FD} {m:List api_MVD} (h:basE n l m=0):0≤n∧n≤16:=by
 unfold basE at h
 split at h
 ·rename_i h0;exact fdsE_n h0
 ·rename_i h0;exact absurd h h0
theorem or_self {a:Int} (ha:U32 a):bOr .u32 a a=a:=by
 have:=bOr_nat (k:=.u32) ha.top ha.top
 rw [← ha.eq,Nat.or_self,← ha.eq] at this
 exact this
theorem inU_zero {n:Nat} {a:Int}:inU n a 0=inU n a a:=by
 unfold inU
 have:sN 0<2^n:=Nat.pow_pos (by omega)
 rw [decide_eq_true this,Bool.and_true,Bool.and_self]
theorem basis_check.spec {n:Int} {l:List api_FD} {m:List api_MVD} {a b:Int} (hl:FdOK l) (hm:MvdOK m) (ha:U32 a) (hb:U32 b):basis_check.C n l m (bOr .u32 a b) (errS n l m a b):=by
 obtain ⟨r,h1,h2⟩:=basis_check.enter n l m (bOr .u32 a b) (fun r=>r=errS n l m a b) (by
  refine ⟨_,basis_Valid.spec hl hm,?_⟩
  unfold errS
  by_cases h0:basE n l m=0
  ·rw [if_pos h0,if_pos h0]
   obtain ⟨q,rfl⟩:∃ q:Nat,n=q:=⟨n.toNat,by have:=basE_n h0;omega⟩
   refine ⟨by omega,?_⟩
   have e:=in_or (n:=q) ha hb
   rw [Int.toNat_natCast]
   by_cases h:inU q a b=true
   ·rw [if_pos (e.2 h),if_pos h]
   ·rw [if_neg (fun hh=>h (e.1 hh)),if_neg h]
  ·rw [if_neg h0,if_neg h0])
 rw [← h1];exact h2
theorem basis_check.one {n:Int} {l:List api_FD} {m:List api_MVD} {a:Int} (hl:FdOK l) (hm:MvdOK m) (ha:U32 a):basis_check.C n l m a (errS n l m a 0):=by
 have:=basis_check.spec (n:=n) hl hm ha ha
 rw [or_self ha] at this
 have e:errS n l m a a=errS n l m a 0:=by unfold errS;rw [inU_zero]
 rw [e] at this
 exact this
def mvL (l:List api_FD):List api_MVD:=l.map fun d=>⟨d.Lhs,d.Rhs⟩
theorem mvL_ok {l:List api_FD} (h:FdOK l):MvdOK (mvL l):=fun d hd=>by
 obtain ⟨x,hx,rfl⟩:=List.mem_map.1 hd
 exact h x hx
theorem drossref13_List.spec {n:Nat} {L:List drossref09_Dep} (hn:n≤16) (hL:DepOK L) (hlen:L.length≤4000000):drossref13_List.C n L (mvL (depL n L)):=by
 obtain ⟨r,h1,h2⟩:=drossref13_List.enter n L (fun r=>r=mvL (depL n L)) (by
  refine ⟨_,drossref09_List.spec hn hL hlen,?_⟩
  have hdl:(depL n L).length≤4000000:=by rw [depL_len];exact hlen
  generalize depL n L=x at *
  have go:∀ (r:List api_FD) (k:Nat) (out:List api_MVD),x.drop k=r→out.length≤k→out++mvL r=mvL x→drossref13_List.L1 out x (k:Int) (fun r=>r=mvL x):=by
   intro r
   induction r with
   | nil=>
    intro k out hd hk h
    have:=drop_ge hd
    apply drossref13_List.L1_step
    rw [if_neg (by omega)]
    simpa [mvL] using h
   | cons a r ih=>
    intro k out hd hk h
    have hlt:=drop_lt hd
    apply drossref13_List.L1_step
    rw [if_pos (by omega)]
    refine ⟨a,lget_drop hd,by omega,?_⟩
    rw [wrap_succ (by omega)]
    exact ih (k+1) _ (drop_next hd) (by rw [List.length_append];simp only [List.length_cons,List.length_nil];omega) (by rw [List.append_assoc];exact h)
  exact go x 0 [] rfl (Nat.le_refl 0) rfl)
 rw [← h1];exact h2
def limE (n:Int) (l:List api_FD) (m:List api_MVD) (a b:Int):Int:=if basE n l m=0 then (if 8<n then 3 else if inU n.toNat a b=true then 0 else 1) else basE n l m
theorem refute_limits.spec {n:Int} {l:List api_FD} {m:List api_MVD} {a b:Int} (hl:FdOK l) (hm:MvdOK m) (ha:U32 a) (hb:U32 b):refute_limits.C n l m a b (limE n l m a b):=by
 obtain ⟨r,h1,h2⟩:=refute_limits.enter n l m a b (fun r=>r=limE n l m a b) (by
  refine ⟨_,basis_Valid.spec hl hm,?_⟩
  unfold limE
  by_cases h0:basE n l m=0
  ·rw [if_pos h0,if_pos h0]
   obtain ⟨q,rfl⟩:∃ q:Nat,n=q:=⟨n.toNat,by have:=basE_n h0;omega⟩
   by_cases h8:8<(q:Int)
   ·rw [if_pos h8,if_pos h8]
   ·rw [if_neg h8,if_neg h8]
    refine ⟨_,refute_within.spec ha hb,?_⟩
    rw [Int.toNat_natCast]
    split<;>rfl
  ·rw [if_neg h0,if_neg h0])
 rw [← h1];exact h2
section
variable {n x:Nat} {fds:List api_FD} {mvds:List api_MVD}
def blkL (n:Nat) (fds:List api_FD) (mvds:List api_MVD) (x:Nat):List Int:=ordL (lN (blk n fds mvds x))
theorem Mix.blk_lt (h:Mix n fds mvds) {b:Nat} (hb:b∈blk n fds mvds x):b<2^n:=(h.part (x:=x)).lt (restN_lt (by have:=h.n6;omega)) hb
theorem Mix.p32 (h:Mix n fds mvds):2^n≤2^32:=Nat.pow_le_pow_right (by omega) (by have:=h.n6;omega)
theorem Mix.allU (h:Mix n fds mvds):AllU (lN (blk n fds mvds x)):=fun y hy=>by
 obtain ⟨b,hb,rfl⟩:=List.mem_map.1 hy
 exact U32.of (Nat.lt_of_lt_of_le (h.blk_lt hb) h.p32)
theorem Mix.blkL_mem (h:Mix n fds mvds) {y:Int}:y∈blkL n fds mvds x↔∃ b∈blk n fds mvds x,y=(b:Int):=by
 unfold blkL
 rw [ordL_mem h.allU]
 unfold lN
 rw [List.mem_map]
 exact ⟨fun ⟨b,h1,h2⟩=>⟨b,h1,h2.symm⟩,fun ⟨b,h1,h2⟩=>⟨b,h1,h2.symm⟩⟩
theorem Mix.blkL_len (h:Mix n fds mvds):(blkL n fds mvds x).length≤6:=by
 have h1:=ordL_len (l:=lN (blk n fds mvds x))
 have h2:=(h.part (x:=x)).len (restN_6 h.n6)
 rw [lN_len] at h1
 unfold blkL;omega
def Val (n:Nat) (fds:List api_FD) (mvds:List api_MVD):Prop:=basE (n:Int) fds mvds=0
theorem errS_zero {a b:Nat} (hv:Val n fds mvds) (ha:a<2^n) (hb:b<2^n):errS (n:Int) fds mvds (a:Int) (b:Int)=0:=by
 unfold errS
 have hv:basE (n:Int) fds mvds=0:=hv
 rw [if_pos hv,if_pos]
 unfold inU
 rw [sN_nat,sN_nat,Int.toNat_natCast,decide_eq_true ha,decide_eq_true hb];rfl
theorem basis_check.ok (h:Mix n fds mvds) (hv:Val n fds mvds) (hx:x<2^n):basis_check.C n fds mvds x 0:=by
 have:=basis_check.one (n:=(n:Int)) h.fok h.mok (a:=(x:Int)) (U32.of (Nat.lt_of_lt_of_le hx h.p32))
 have e:errS (n:Int) fds mvds (x:Int) 0=0:=errS_zero (b:=0) hv hx (Nat.pow_pos (by omega))
 rw [e] at this;exact this
theorem basis_check.ok2 (h:Mix n fds mvds) (hv:Val n fds mvds) {y:Nat} (hx:x<2^n) (hy:y<2^n):basis_check.C n fds mvds (bOr .u32 (x:Int) (y:Int)) 0:=by
 have:=basis_check.spec (n:=(n:Int)) h.fok h.mok (a:=(x:Int)) (b:=(y:Int)) (U32.of (Nat.lt_of_lt_of_le hx h.p32)) (U32.of (Nat.lt_of_lt_of_le hy h.p32))
 rw [errS_zero hv hx hy] at this;exact this
theorem basis_blocks.ok (h:Mix n fds mvds) (hx:x<2^n):basis_blocks.C n (allI fds mvds) x (blkL n fds mvds x):=
 basis_blocks.all (by have:=h.n6;omega) (Nat.lt_of_lt_of_le hx h.p32) h.fok h.mok h.f64 h.m64
theorem szN_one {b:Nat} (hb:b<2^32):szN b=1↔∃ j,j<32∧b=2^j:=by
 unfold szN
 constructor
 ·intro h
  obtain ⟨j,hj⟩:=List.length_eq_one_iff.1 h
  have hjb:=(bitsOf_mem hb).1 (by rw [hj];simp:j∈bitsOf b)
  refine ⟨j,lt_iff.1 hb j hjb,?_⟩
  apply Nat.eq_of_testBit_eq
  intro i
  rw [one_bit,Bool.eq_iff_iff,decide_eq_true_eq,← bitsOf_mem hb,hj,List.mem_singleton]
  exact eq_comm
 ·rintro ⟨j,hj,rfl⟩
  have hm:∀ i,i∈bitsOf (2^j)↔j=i:=fun i=>by rw [bitsOf_mem hb,one_bit,decide_eq_true_eq]
  have hs:=bitsOf_sorted (n:=2^j)
  match hq:bitsOf (2^j),hm,hs with
  | [],hm,_=>exact absurd ((hm j).2 rfl) (by simp)
  | [a],_,_=>rfl
  | a::b::l,hm,hs=>
   have h1:=(hm a).1 (by simp)
   have h2:=(hm b).1 (by simp)
   have:=(List.pairwise_cons.1 hs).1 b (by simp)
   omega
def detB (fds:List api_FD) (b:Nat):Bool:=decide (szN b=1)&&fds.any fun d=>decide (ndiff (sN d.Rhs) (sN d.Lhs) &&& b≠0)
def detL (fds:List api_FD):List Int→Nat→Nat
 | [],a=>a
 | b::l,a=>detL fds l (if detB fds (sN b)=true then a ||| sN b else a)
theorem detL_bit:∀ {l:List Int} {a i:Nat},(detL fds l a).testBit i=(a.testBit i || l.any fun b=>detB fds (sN b)&&(sN b).testBit i)
 | [],a,i=>by simp [detL]
 | b::l,a,i=>by
  simp only [detL]
  rw [detL_bit,List.any_cons]
  cases hp:detB fds (sN b)<;>simp [Nat.testBit_or,Bool.or_assoc]
theorem det_clo (h:Mix n fds mvds) (hx:x<2^n):detL fds (blkL n fds mvds x) x=cloX n fds mvds x:=by
 apply Nat.eq_of_testBit_eq
 intro i
 unfold cloX
 rw [detL_bit,ofBits_bit,Bool.eq_iff_iff,Bool.or_eq_true,Bool.and_eq_true,Bool.or_eq_true,decide_eq_true_eq,decide_eq_true_eq,List.any_eq_true]
 have h32:=h.p32
 constructor
 ·rintro (hi | ⟨z,hz,hq⟩)
  ·exact ⟨lt_iff.1 hx i hi,.inl hi⟩
  ·obtain ⟨b,hb,rfl⟩:=h.blkL_mem.1 hz
   rw [sN_nat,Bool.and_eq_true] at hq
   obtain ⟨hp,hbi⟩:=hq
   have hbn:=h.blk_lt hb
   unfold detB at hp
   rw [Bool.and_eq_true,decide_eq_true_eq,List.any_eq_true] at hp
   obtain ⟨j,_,rfl⟩:=(szN_one (Nat.lt_of_lt_of_le hbn h32)).1 hp.1
   rw [one_bit,decide_eq_true_eq] at hbi
   subst hbi
   obtain ⟨d,hd,hne⟩:=hp.2
   rw [decide_eq_true_eq] at hne
   obtain ⟨q,h1,h2⟩:=and_ne.1 hne
   rw [one_bit,decide_eq_true_eq] at h2
   subst h2
   rw [ndiff_bit,Bool.and_eq_true,Bool.not_eq_true'] at h1
   exact ⟨lt_iff.1 hbn j (by rw [one_bit];simp),.inr ⟨hb,fN d,List.mem_map.2 ⟨d,hd,rfl⟩,h1⟩⟩
 ·rintro ⟨hi,hxi | ⟨hb,d,hd,h1,h2⟩⟩
  ·exact .inl hxi
  ·obtain ⟨f,hf,rfl⟩:=List.mem_map.1 hd
   refine .inr ⟨((2^i:Nat):Int),h.blkL_mem.2 ⟨_,hb,rfl⟩,?_⟩
   rw [sN_nat,Bool.and_eq_true]
   refine ⟨?_,by rw [one_bit];simp⟩
   unfold detB
   rw [Bool.and_eq_true,decide_eq_true_eq,List.any_eq_true]
   refine ⟨(szN_one (Nat.lt_of_lt_of_le (h.blk_lt hb) h32)).2 ⟨i,by have:=h.n6;omega,rfl⟩,f,hf,?_⟩
   rw [decide_eq_true_eq]
   exact and_ne.2 ⟨i,by rw [ndiff_bit];unfold fN at h1 h2;simp only at h1 h2;rw [h1,h2];rfl,by rw [one_bit];simp⟩
theorem close_index (h:Mix n fds mvds) {b:Nat} (hb:b<2^32):slices_ContainsFunc_sapi_FD_api_FD_basis_Close_1.C fds (b:Int) (fds.any fun d=>decide (ndiff (sN d.Rhs) (sN d.Lhs) &&& b≠0)):=by
 have hlen:=h.f64
 have hone:∀ d∈fds,basis_Close_1.C d (b:Int) (decide (ndiff (sN d.Rhs) (sN d.Lhs) &&& b≠0)):=fun d hd=>by
  obtain ⟨r,h1,h2⟩:=basis_Close_1.enter d (b:Int) (fun r=>r=decide (ndiff (sN d.Rhs) (sN d.Lhs) &&& b≠0)) (by
   have hd':=h.fok d hd
   have e:bAndNot .u32 d.Rhs d.Lhs=((ndiff (sN d.Rhs) (sN d.Lhs):Nat):Int):=by
    conv=>lhs;rw [hd'.1.eq,hd'.2.eq]
    exact bAndNot_nat hd'.2.top hd'.1.top
   rw [e,bAnd_nat (top32 (Nat.lt_of_le_of_lt ndiff_le hd'.2.lt)) (top32 hb),Bool.eq_iff_iff,bne_iff_ne,decide_eq_true_eq]
   omega)
  rw [← h1];exact h2
 obtain ⟨r,h1,h2⟩:=slices_IndexFunc_sapi_FD_api_FD_basis_Close_1.enter fds (b:Int) (fun r=>decide (0≤r)=fds.any fun d=>decide (ndiff (sN d.Rhs) (sN d.Lhs) &&& b≠0)) (by
  have go:∀ (l:List api_FD) (k:Nat),fds.drop k=l→(fds.any fun d=>decide (ndiff (sN d.Rhs) (sN d.Lhs) &&& b≠0))=(l.any fun d=>decide (ndiff (sN d.Rhs) (sN d.Lhs) &&& b≠0))→slices_IndexFunc_sapi_FD_api_FD_basis_Close_1.L1 fds (b:Int) (k:Int) (fun r=>decide (0≤r)=fds.any fun d=>decide (ndiff (sN d.Rhs) (sN d.Lhs) &&& b≠0)):=by
   intro l
   induction l with
   | nil=>
    intro k hk he
    have:=drop_ge hk
    apply slices_IndexFunc_sapi_FD_api_FD_basis_Close_1.L1_step
    rw [if_neg (by omega),he];rfl
   | cons d l ih=>
    intro k hk he
    have hlt:=drop_lt hk
    apply slices_IndexFunc_sapi_FD_api_FD_basis_Close_1.L1_step
    rw [if_pos (by omega)]
    refine ⟨d,lget_drop hk,_,hone d (List.mem_of_getElem? (drop_get hk)),?_⟩
    rw [List.any_cons] at he
    cases hq:decide (ndiff (sN d.Rhs) (sN d.Lhs) &&& b≠0) with
    | true=>
     rw [if_pos rfl,he,hq,Bool.true_or,decide_eq_true_eq];omega
    | false=>
     rw [if_neg (by simp),wrap_succ (by omega)]
     rw [hq,Bool.false_or] at he
     exact ih (k+1) (drop_next hk) he
  exact go fds 0 rfl rfl)
 obtain ⟨q,h3,h4⟩:=slices_ContainsFunc_sapi_FD_api_FD_basis_Close_1.enter fds (b:Int) (fun q=>q=fds.any fun d=>decide (ndiff (sN d.Rhs) (sN d.Lhs) &&& b≠0)) ⟨r,h2,h1⟩
 rw [← h3];exact h4
theorem basis_Close.spec (h:Mix n fds mvds) (hv:Val n fds mvds) (hx:x<2^n):basis_Close.C n fds mvds x (((cloX n fds mvds x:Nat):Int),0):=by
 obtain ⟨r,h1,h2⟩:=basis_Close.enter n fds mvds x (fun r=>r=(((cloX n fds mvds x:Nat):Int),0)) ⟨_,basis_check.ok h hv hx,by
  rw [if_pos rfl]
  refine ⟨_,basis_all.spec h.fok h.f64 h.m64,_,basis_blocks.ok h hx,?_⟩
  rw [← det_clo h hx]
  have hlen:=h.blkL_len (x:=x)
  have h32:=h.p32
  have go:∀ (l:List Int) (k a:Nat),(blkL n fds mvds x).drop k=l→a<2^32→detL fds l a=detL fds (blkL n fds mvds x) x→basis_Close.L1 fds (a:Int) (blkL n fds mvds x) (k:Int) (fun r=>r=(((detL fds (blkL n fds mvds x) x:Nat):Int),0)):=by
   intro l
   induction l with
   | nil=>
    intro k a hk ha he
    have:=drop_ge hk
    apply basis_Close.L1_step
    rw [if_neg (by omega),← he];rfl
   | cons z l ih=>
    intro k a hk ha he
    have hlt:=drop_lt hk
    obtain ⟨b,hb,rfl⟩:=h.blkL_mem.1 (List.mem_of_getElem? (drop_get hk))
    have hb32:=Nat.lt_of_lt_of_le (h.blk_lt hb) h32
    have next:∀ a:Nat,a<2^32→detL fds l a=detL fds (blkL n fds mvds x) x→basis_Close.L2 fds (a:Int) (blkL n fds mvds x) (k:Int) (fun r=>r=(((detL fds (blkL n fds mvds x) x:Nat):Int),0)):=fun a ha he=>by
     apply basis_Close.L2_step
     rw [wrap_succ (by omega)]
     exact ih (k+1) a (drop_next hk) ha he
    simp only [detL,sN_nat] at he
    apply basis_Close.L1_step
    rw [if_pos (by omega)]
    have hs:=attrset_Size.spec (U32.of hb32)
    rw [sN_nat] at hs
    refine ⟨_,lget_drop hk,_,hs,?_⟩
    by_cases h1:szN b=1
    ·rw [if_pos (by omega)]
     refine ⟨_,close_index h hb32,?_⟩
     cases hq:(fds.any fun d=>decide (ndiff (sN d.Rhs) (sN d.Lhs) &&& b≠0)) with
     | true=>
      rw [if_pos rfl,bOr_nat (top32 ha) (top32 hb32)]
      rw [if_pos (by unfold detB;rw [hq,decide_eq_true h1];rfl)] at he
      exact next _ (Nat.or_lt_two_pow ha hb32) he
     | false=>
      rw [if_neg (by simp)]
      rw [if_neg (by unfold detB;rw [hq];simp)] at he
      exact next a ha he
    ·rw [if_neg (by omega)]
     rw [if_neg (by unfold detB;simp [h1])] at he
     exact next a ha he
  exact go _ 0 x rfl (Nat.lt_of_lt_of_le hx h32) rfl⟩
 rw [← h1];exact h2
theorem basis_ImpliesFD.spec (h:Mix n fds mvds) (hv:Val n fds mvds) {y:Nat} (hx:x<2^n) (hy:y<2^n):basis_ImpliesFD.C n fds mvds ⟨x,y⟩ (decide (ndiff y (cloX n fds mvds x)=0),0):=by
 obtain ⟨r,h1,h2⟩:=basis_ImpliesFD.enter n fds mvds ⟨x,y⟩ (fun r=>r=(decide (ndiff y (cloX n fds mvds x)=0),0)) ⟨_,basis_check.ok2 h hv hx hy,by
  rw [if_pos rfl]
  refine ⟨_,basis_Close.spec h hv hx,?_⟩
  show ((bAndNot .u32 (y:Int) ((cloX n fds mvds x:Nat):Int) == 0),(0:Int))=_
  rw [bAndNot_nat (top32 (Nat.lt_of_lt_of_le hy h.p32)) (top32 (Nat.lt_of_lt_of_le cloX_lt h.p32))]
  congr 1
  rw [Bool.eq_iff_iff,beq_iff_eq,decide_eq_true_eq];omega⟩
 rw [← h1];exact h2
end
theorem fdsE_dep {n:Nat} {L:List drossref09_Dep} (hn:n≤6) (hl:L.length≤6):fdsE (n:Int) (depL n L)=0:=by
 have:=errA_n (depL_err (n:=n) (L:=L) hn hl)
 exact this.2.2
theorem drossref13_Of.exact {x:drossref13_Mixed} (hN:0≤x.D.N∧x.D.N<256) (hL:DepOK x.D.L) (hM:DepOK x.M) (h1:x.D.L.length≤4000000) (h2:x.M.length≤4000000):drossref13_Of.C x (((depN x.D.N:Nat):Int),depL (depN x.D.N) x.D.L,mvL (depL (depN x.D.N) x.M),decide (x.D.L.length≤6∧x.M.length≤4)):=by
 obtain ⟨r,e1,e2⟩:=drossref13_Of.enter x (fun r=>r=(((depN x.D.N:Nat):Int),depL (depN x.D.N) x.D.L,mvL (depL (depN x.D.N) x.M),decide (x.D.L.length≤6∧x.M.length≤4))) (by
  refine ⟨_,drossref09_Of.spec hN hL h1,_,drossref13_List.spec (by have:=depN_lt (N:=x.D.N);omega) hM h2,?_⟩
  by_cases h6:x.D.L.length≤6
  ·rw [if_pos (by show decide _=true;rw [decide_eq_true_eq];omega)]
   congr 3
   rw [Bool.eq_iff_iff,decide_eq_true_eq,decide_eq_true_eq];omega
  ·rw [if_neg (by show ¬ decide _=true;rw [decide_eq_true_eq];omega)]
   congr 3
   rw [eq_comm,decide_eq_false_iff_not];omega)
 rw [← e1];exact e2
theorem mix_of {n:Nat} {L M:List drossref09_Dep} (hn:n≤6) (hl:L.length≤6) (hm:M.length≤4):Mix n (depL n L) (mvL (depL n M)) where
 n6:=hn
 fok:=depL_ok (by omega)
 mok:=mvL_ok (depL_ok (by omega))
 f64:=by rw [depL_len];omega
 m64:=by unfold mvL;rw [List.length_map,depL_len];omega
theorem val_of {n:Nat} {L M:List drossref09_Dep} (hn:n≤6) (hl:L.length≤6) (hm:M.length≤4):Val n (depL n L) (mvL (depL n M)):=by
 unfold Val basE
 rw [if_pos (fdsE_dep hn hl),if_neg (by unfold mvL;rw [List.length_map,depL_len];omega),if_pos]
 rw [List.all_eq_true]
 intro d hd
 obtain ⟨f,hf,rfl⟩:=List.mem_map.1 hd
 obtain ⟨z,_,rfl⟩:=List.mem_map.1 hf
 unfold inU
 rw [sN_nat,sN_nat,Int.toNat_natCast,decide_eq_true and_pow,decide_eq_true and_pow];rfl
theorem refute_chase_1.spec {R:List Nat} {x:Nat} (hl:R.length≤1000000):refute_chase_1.C (x:Int) (lN R) (decide (x ∉ R),lN (if x∈R then R else R++[x])):=by
 obtain ⟨r,h1,h2⟩:=refute_chase_1.enter (x:Int) (lN R) (fun r=>r=(decide (x ∉ R),lN (if x∈R then R else R++[x]))) (by
  refine ⟨_,mem_contains (by rw [lN_len];omega),?_⟩
  by_cases h:x∈R
  ·rw [if_pos (by rw [decide_eq_true_eq];exact lN_mem.2 h)];simp [h]
  ·rw [if_neg (by rw [decide_eq_true_eq];exact fun hh=>h (lN_mem.1 hh))]
   exact ⟨by rw [lN_len];omega,by simp [h,lN]⟩)
 rw [← h1];exact h2
def FdGone (d:Nat×Nat) (R:List Nat) (D:Nat):Prop:=∀ i,D.testBit i=true↔d.2.testBit i=true∧∃ r s,r∈R∧s∈R∧agreeR d.1 r s∧r.testBit i≠s.testBit i
section
variable {n x:Nat} {fds:List api_FD} {mvds:List api_MVD}
theorem FdGone.done {d:Nat×Nat} {R:List Nat} (h:FdGone d R 0):FdDone d R:=fun r s hr hs ha i hi=>by
 have:=h i
 rw [Nat.zero_testBit] at this
 cases hq:decide (r.testBit i=s.testBit i) with
 | true=>exact of_decide_eq_true hq
 | false=>exact absurd (this.2 ⟨hi,r,s,hr,hs,ha,of_decide_eq_false hq⟩) (by simp)
theorem Rows13.gone {fds mvds:List (Nat×Nat)} {bs:List Nat} {rest live:Nat} (hp:BPart rest bs) (hf:BFin (allMv fds mvds) bs) {d:Nat×Nat} (hd:d∈fds) (hd32:d.2<2^32) {R A:List Nat} (h:Rows13 fds bs rest live R) {D:Nat} (hD:FdGone d R D) (h0:D≠0) (hn:A.Nodup) (hA:∀ u,u∈A↔∃ q∈R,u=ndiff q D):∃ live',live'<live∧Rows13 fds bs rest live' A:=by
 refine ⟨ndiff live D,?_,hn,?_⟩
 ·refine Nat.lt_of_le_of_ne ndiff_le fun he=>?_
  obtain ⟨i,hi⟩:=ne_bit h0
  obtain ⟨_,r,s,hr,hs,_,hne⟩:=(hD i).1 hi
  have hl:live.testBit i=true:=by
   cases hq:r.testBit i with
   | true=>exact h.2.sub r hr i hq
   | false=>
    cases hq2:s.testBit i with
    | true=>exact h.2.sub s hs i hq2
    | false=>rw [hq,hq2] at hne;exact absurd rfl hne
  have:=congrArg (fun x=>x.testBit i) he
  simp only [ndiff_bit,hi,hl] at this
  cases this
 ·have:=h.2.fd hp hf hd hd32 fun i hi=>(hD i).1 hi
  have e:(fun u=>u∈A)=fun u=>∃ q,q∈R∧u=ndiff q D:=by funext u;rw [hA u]
  rw [e];exact this
namespace refute_chase
theorem puts {R:List Nat} {D:Nat} (hD:D<2^32) (hR:∀ r∈R,r<2^32) (hl:R.length≤1000) {i:Nat} {φ:List Int→Prop} (h:∀ A:List Nat,A.Nodup→(∀ u,u∈A↔∃ q∈R,u=ndiff q D)→L9 fds mvds (lN A) true (i:Int) φ) :
  ∀ (r:List Nat) (k:Nat) (A:List Nat),R.drop k=r→A.length≤k→A.Nodup→(∀ u,u∈A↔∃ q∈R.take k,u=ndiff q D)→L6 fds mvds (lN A) (D:Int) (lN R) (i:Int) (R.length:Int) (k:Int) φ:=by
 intro r
 induction r with
 | nil=>
  intro k A hd hk hn hm
  have:=drop_ge hd
  apply L6_step
  rw [if_neg (by omega)]
  refine h A hn fun u=>?_
  rw [hm u,List.take_of_length_le this]
 | cons a r ih=>
  intro k A hd hk hn hm
  have hlt:=drop_lt hd
  have ha:=drop_get hd
  have ha32:=hR a (List.mem_of_getElem? ha)
  apply L6_step
  rw [if_pos (by omega)]
  refine ⟨_,lN_get ha,?_⟩
  rw [bAndNot_nat (top32 ha32) (top32 hD)]
  refine ⟨_,refute_chase_1.spec (by omega),?_⟩
  rw [wrap_succ (by omega)]
  refine ih (k+1) _ (drop_next hd) ?_ ?_ ?_
  ·split
   ·omega
   ·rw [List.length_append,List.length_singleton];omega
  ·split
   ·exact hn
   ·rename_i hni
    rw [List.nodup_append]
    exact ⟨hn,by simp,fun x hx y hy=>by simp only [List.mem_singleton] at hy;subst hy;rintro rfl;exact hni hx⟩
  ·intro u
   split
   ·rename_i hin
    rw [hm u]
    constructor
    ·rintro ⟨q,h1,h2⟩;exact ⟨q,(take_get ha).2 (.inl h1),h2⟩
    ·rintro ⟨q,h1,rfl⟩
     rcases (take_get ha).1 h1 with h1 | rfl
     ·exact ⟨q,h1,rfl⟩
     ·exact (hm _).1 hin
   ·rw [List.mem_append,hm u,List.mem_singleton]
    constructor
    ·rintro (⟨q,h1,h2⟩ | rfl)
     ·exact ⟨q,(take_get ha).2 (.inl h1),h2⟩
     ·exact ⟨a,(take_get ha).2 (.inr rfl),rfl⟩
    ·rintro ⟨q,h1,rfl⟩
     rcases (take_get ha).1 h1 with h1 | rfl
     ·exact .inl ⟨q,h1,rfl⟩
     ·exact .inr rfl
def GoneTo (d:Nat×Nat) (R:List Nat) (i j:Nat) (D:Nat):Prop:=∀ b,D.testBit b=true↔d.2.testBit b=true∧∃ (p q r s:Nat),(p<i∨(p=i∧q<j))∧R[p]? = some r∧R[q]? = some s∧agreeR d.1 r s∧r.testBit b≠s.testBit b
theorem gones {R:List Nat} {d:api_FD} (hd:U32 d.Lhs∧U32 d.Rhs) (hR:∀ r∈R,r<2^32) (hl:R.length≤1000) {ch:Bool} {f:Nat} {φ:List Int→Prop} (h:∀ D:Nat,D<2^32→FdGone (fN d) R D→(if (D:Int)=0 then L9 fds mvds (lN R) ch (f:Int) φ else L6 fds mvds [] (D:Int) (lN R) (f:Int) (R.length:Int) 0 φ)) :
  ∀ (l:List Nat) (i D:Nat),R.drop i=l→D<2^32→GoneTo (fN d) R i 0 D→L3 fds mvds (lN R) ch d (D:Int) (f:Int) (R.length:Int) (i:Int) φ:=by
 intro l
 induction l with
 | nil=>
  intro i D hi hD hg
  have hge:=drop_ge hi
  apply L3_step
  rw [if_neg (by omega)]
  have:=h D hD fun b=>by
   rw [hg b]
   refine and_congr_right fun _=>?_
   constructor
   ·rintro ⟨p,q,r,s,_,h1,h2,h3,h4⟩;exact ⟨r,s,List.mem_of_getElem? h1,List.mem_of_getElem? h2,h3,h4⟩
   ·rintro ⟨r,s,h1,h2,h3,h4⟩
    obtain ⟨p,hp⟩:=List.getElem?_of_mem h1
    obtain ⟨q,hq⟩:=List.getElem?_of_mem h2
    exact ⟨p,q,r,s,.inl (by have:=(List.getElem?_eq_some_iff.1 hp).1;omega),hp,hq,h3,h4⟩
  rw [lN_len];exact this
 | cons a l ih=>
  intro i D hi hD hg
  have hlt:=drop_lt hi
  have ha:=drop_get hi
  have ham:=List.mem_of_getElem? ha
  apply L3_step
  rw [if_pos (by omega)]
  refine ⟨_,lN_get ha,?_⟩
  have inner:∀ (l2:List Nat) (k D:Nat),R.drop k=l2→D<2^32→GoneTo (fN d) R i k D→L5 fds mvds (lN R) ch d (D:Int) (a:Int) (f:Int) (R.length:Int) (i:Int) (R.length:Int) (k:Int) φ:=by
   intro l2
   induction l2 with
   | nil=>
    intro k D hk hD hg
    have hge:=drop_ge hk
    apply L5_step
    rw [if_neg (by omega),wrap_succ (by omega)]
    refine ih (i+1) D (drop_next hi) hD fun b=>?_
    rw [hg b]
    refine and_congr_right fun _=>?_
    constructor
    ·rintro ⟨p,q,r,s,h0,h1⟩;exact ⟨p,q,r,s,.inl (by omega),h1⟩
    ·rintro ⟨p,q,r,s,h0,h1,h2,h3⟩
     refine ⟨p,q,r,s,?_,h1,h2,h3⟩
     have:=(List.getElem?_eq_some_iff.1 h2).1
     omega
   | cons c l2 ih2=>
    intro k D hk hD hg
    have hklt:=drop_lt hk
    have hc:=drop_get hk
    have hcm:=List.mem_of_getElem? hc
    apply L5_step
    rw [if_pos (by omega)]
    refine ⟨_,lN_get hc,?_⟩
    by_cases h0:agreeR (sN d.Lhs) a c
    ·rw [if_pos ((agree0 (hR a ham) (hR c hcm) hd.1).2 h0),xorAnd (hR a ham) (hR c hcm) hd.2]
     have hx:(a ^^^ c) &&& sN d.Rhs<2^32:=Nat.lt_of_le_of_lt Nat.and_le_right hd.2.lt
     rw [bOr_nat (top32 hD) (top32 hx)]
     apply L8_step
     rw [wrap_succ (by omega)]
     refine ih2 (k+1) _ (drop_next hk) (Nat.or_lt_two_pow hD hx) fun b=>?_
     rw [Nat.testBit_or,Bool.or_eq_true,hg b,Nat.testBit_and,Bool.and_eq_true,Nat.testBit_xor]
     constructor
     ·rintro (⟨h1,p,q,r,s,h2,h3⟩ | ⟨h1,h2⟩)
      ·exact ⟨h1,p,q,r,s,by omega,h3⟩
      ·refine ⟨h2,i,k,a,c,.inr ⟨rfl,by omega⟩,ha,hc,h0,fun he=>?_⟩
       rw [he] at h1;simp at h1
     ·rintro ⟨h1,p,q,r,s,h2,h3,h4,h5,h6⟩
      by_cases hpq:p=i∧q=k
      ·obtain ⟨rfl,rfl⟩:=hpq
       rw [ha] at h3;cases h3
       rw [hc] at h4;cases h4
       refine .inr ⟨?_,h1⟩
       cases hq:a.testBit b<;>cases hq2:c.testBit b<;>simp_all
      ·exact .inl ⟨h1,p,q,r,s,by omega,h3,h4,h5,h6⟩
    ·rw [if_neg fun hh=>h0 ((agree0 (hR a ham) (hR c hcm) hd.1).1 hh)]
     apply L8_step
     rw [wrap_succ (by omega)]
     refine ih2 (k+1) D (drop_next hk) hD fun b=>?_
     rw [hg b]
     refine and_congr_right fun _=>?_
     constructor
     ·rintro ⟨p,q,r,s,h2,h3⟩;exact ⟨p,q,r,s,by omega,h3⟩
     ·rintro ⟨p,q,r,s,h2,h3,h4,h5,h6⟩
      by_cases hpq:p=i∧q=k
      ·obtain ⟨rfl,rfl⟩:=hpq
       rw [ha] at h3;cases h3
       rw [hc] at h4;cases h4
       exact absurd h5 h0
      ·exact ⟨p,q,r,s,by omega,h3,h4,h5,h6⟩
  rw [lN_len]
  refine inner R 0 D rfl hD fun b=>?_
  rw [hg b]
theorem mvds1 {R0:List Nat} {m:api_MVD} (hd:U32 m.Lhs∧U32 m.Rhs) {I:List Nat→Prop} (hI:Grows (mN m) I) {j:Nat} {ch0:Bool} {φ:List Int→Prop} (hφ:∀ (ch:Bool) (A:List Nat),I A→R0.length≤A.length→(if ch=true then ch0=true∨R0.length<A.length else ch0=false∧A=R0∧MvDone (mN m) R0)→L4 fds mvds (lN A) ch ((IntKind.wrap .i64 ((j:Int)+1))) φ) :
  ∀ (l:List Nat) (i:Nat) (R:List Nat) (ch:Bool),R0.drop i=l→I R→(∀ r∈R0,r∈R)→R0.length≤R.length→(if ch=true then ch0=true∨R0.length<R.length else ch0=false∧R=R0∧∀ p r s,p<i→R0[p]? = some r→s∈R0→agreeR (mN m).1 r s→mixR (mN m) r s∈R0) →
   L7 fds mvds (lN R) ch m (j:Int) (lN R0) (R0.length:Int) (i:Int) φ:=by
 intro l
 induction l with
 | nil=>
  intro i R ch hi hR hsub hlen hch
  have hge:=drop_ge hi
  apply L7_step
  rw [if_neg (by omega)]
  refine hφ ch R hR hlen ?_
  cases ch with
  | true=>simpa using hch
  | false=>
   simp only [Bool.false_eq_true,if_false] at hch ⊢
   obtain ⟨h1,h2,h3⟩:=hch
   refine ⟨h1,h2,fun r s hr hs=>?_⟩
   obtain ⟨p,hp⟩:=List.getElem?_of_mem hr
   exact h3 p r s (by have:=(List.getElem?_eq_some_iff.1 hp).1;omega) hp hs
 | cons a l ih=>
  intro i R1 ch1 hi hR1 hsub1 hlen1 hch1
  have hlt:=drop_lt hi
  have ha:=drop_get hi
  have ham:=List.mem_of_getElem? ha
  have h64:=hI.len R1 hR1
  apply L7_step
  rw [if_pos (by omega)]
  refine ⟨_,lN_get ha,by rw [lN_len];omega,?_⟩
  have inner:∀ (l2:List Nat) (k:Nat) (R:List Nat) (ch:Bool),R1.drop k=l2→I R→(∀ r∈R1,r∈R)→R0.length≤R.length →
    (if ch=true then ch0=true∨R0.length<R.length else ch1=false∧R=R1∧∀ q s,q<k→R1[q]? = some s→agreeR (mN m).1 a s→mixR (mN m) a s∈R1) →
    L10 fds mvds (lN R) ch m (a:Int) (j:Int) (lN R0) (R0.length:Int) (i:Int) (lN R1) (R1.length:Int) (k:Int) φ:=by
   intro l2
   induction l2 with
   | nil=>
    intro k R ch hk hR hsub hlen hch
    have hge:=drop_ge hk
    apply L10_step
    rw [if_neg (by omega),wrap_succ (by omega)]
    refine ih (i+1) R ch (drop_next hi) hR (fun r hr=>hsub r (hsub1 r hr)) hlen ?_
    cases ch with
    | true=>simpa using hch
    | false=>
     simp only [Bool.false_eq_true,if_false] at hch ⊢
     obtain ⟨rfl,rfl,h3⟩:=hch
     simp only [Bool.false_eq_true,if_false] at hch1
     obtain ⟨c1,rfl,c3⟩:=hch1
     refine ⟨c1,rfl,fun p r s hp hr hs=>?_⟩
     by_cases hpi:p=i
     ·subst hpi
      rw [ha] at hr;cases hr
      obtain ⟨q,hq⟩:=List.getElem?_of_mem hs
      exact h3 q s (by have:=(List.getElem?_eq_some_iff.1 hq).1;omega) hq
     ·exact c3 p r s (by omega) hr hs
   | cons c l2 ih2=>
    intro k R ch hk hR hsub hlen hch
    have hklt:=drop_lt hk
    have hc:=drop_get hk
    have hcm:=List.mem_of_getElem? hc
    have hx32:=hI.lt R hR a (hsub a (hsub1 a ham))
    have hy32:=hI.lt R hR c (hsub c hcm)
    have hl64:=hI.len R hR
    have stay:(agreeR (mN m).1 a c→mixR (mN m) a c∈R)→L11 fds mvds (lN R) ch m (a:Int) (j:Int) (lN R0) (R0.length:Int) (i:Int) (lN R1) (R1.length:Int) (k:Int) φ:=fun hn=>by
     apply L11_step
     rw [wrap_succ (by omega)]
     refine ih2 (k+1) R ch (drop_next hk) hR hsub hlen ?_
     cases ch with
     | true=>simpa using hch
     | false=>
      simp only [Bool.false_eq_true,if_false] at hch ⊢
      obtain ⟨h1,rfl,h3⟩:=hch
      refine ⟨h1,rfl,fun q s hq hs=>?_⟩
      by_cases hqk:q=k
      ·subst hqk;rw [hc] at hs;cases hs;exact hn
      ·exact h3 q s (by omega) hs
    apply L10_step
    rw [if_pos (by omega)]
    refine ⟨_,lN_get hc,?_⟩
    by_cases h0:agreeR (sN m.Lhs) a c
    ·rw [if_pos ((agree0 hx32 hy32 hd.1).2 h0),mixI hd.1 hd.2 hx32 hy32]
     refine ⟨_,refute_chase_1.spec (by omega),?_⟩
     by_cases hin:mixR (sN m.Lhs,sN m.Rhs) a c∈R
     ·rw [if_neg (by simp [hin])]
      simp only [if_pos hin]
      exact stay fun _=>hin
     ·rw [if_pos (by simp [hin])]
      simp only [if_neg hin]
      have hR':=hI.add R a c hR (hsub a (hsub1 a ham)) (hsub c hcm) h0 hin
      rw [show (mN m)=(sN m.Lhs,sN m.Rhs) from rfl] at hR'
      apply L11_step
      rw [wrap_succ (by omega)]
      have hlen':(R++[mixR (sN m.Lhs,sN m.Rhs) a c]).length=R.length+1:=by simp
      refine ih2 (k+1) _ true (drop_next hk) hR' (fun r hr=>List.mem_append_left _ (hsub r hr)) (by omega) ?_
      rw [if_pos rfl]
      exact .inr (by omega)
    ·rw [if_neg fun hh=>h0 ((agree0 hx32 hy32 hd.1).1 hh)]
     exact stay fun hn=>absurd hn h0
  rw [lN_len]
  refine inner R1 0 R1 ch1 rfl hR1 (fun r hr=>hr) hlen1 ?_
  cases ch1 with
  | true=>simpa using hch1
  | false=>
   simp only [Bool.false_eq_true,if_false]
   exact ⟨trivial,trivial,fun q s hq=>absurd hq (Nat.not_lt_zero q)⟩
theorem loop (H:Mix n fds mvds) {φ:List Int→Prop} (hφ:∀ live R,Chased n fds mvds x live R→φ (lN R)) :
  ∀ (μ live:Nat) (R:List Nat),Rows13 (fds.map fN) (blk n fds mvds x) (restN n x) live R→left13 live R≤μ→L1 fds mvds (lN R) true φ:=by
 have hp:=H.part (x:=x)
 have hf:=H.fin (x:=x)
 have hr6:=restN_6 (x:=x) H.n6
 intro μ
 induction μ using Nat.strongRecOn with
 | _ μ ihμ=>
 intro live R hR hμ
 have C4:∀ (l:List api_MVD) (j:Nat),mvds.drop j=l→∀ (live:Nat) (R:List Nat) (ch:Bool),Rows13 (fds.map fN) (blk n fds mvds x) (restN n x) live R→left13 live R≤μ→(ch=true→left13 live R<μ) →
   (ch=false→(∀ d∈fds,FdDone (fN d) R)∧∀ (q:Nat) (m:api_MVD),q<j→mvds[q]? = some m→MvDone (mN m) R)→L4 fds mvds (lN R) ch (j:Int) φ:=by
  intro l
  induction l with
  | nil=>
   intro j hj live R ch hR hμ hch hno
   have:=drop_ge hj
   apply L4_step
   rw [if_neg (by omega)]
   cases ch with
   | true=>exact ihμ _ (hch rfl) live R hR (Nat.le_refl _)
   | false=>
    apply L1_step
    rw [if_neg (by simp)]
    obtain ⟨h1,h2⟩:=hno rfl
    refine hφ live R ⟨hR,closed_of h1 fun m hm=>?_⟩
    obtain ⟨q,hq⟩:=List.getElem?_of_mem hm
    exact h2 q m (by have:=(List.getElem?_eq_some_iff.1 hq).1;omega) hq
  | cons m l ih=>
   intro j hj live R ch hR hμ hch hno
   have hlt:=drop_lt hj
   have hm:=drop_get hj
   have hmm:=List.mem_of_getElem? hm
   have h64:=H.m64
   have hRl:=hR.len hr6
   apply L4_step
   rw [if_pos (by omega)]
   refine ⟨m,lget_drop hj,by rw [lN_len];omega,?_⟩
   have hg:=Rows13.grows (live:=live) hp hf hr6 (m:=mN m) (List.mem_map.2 ⟨m,hmm,rfl⟩)
   rw [lN_len]
   refine mvds1 (H.mok m hmm) hg (ch0:=ch) (fun ch' A hA hle hc=>?_) R 0 R ch rfl hR (fun r hr=>hr) (Nat.le_refl _) ?_
   ·rw [wrap_succ (by omega)]
    have hAl:=hA.len hr6
    have hle2:left13 live A≤left13 live R:=by unfold left13;omega
    cases ch' with
    | true=>
     rw [if_pos rfl] at hc
     refine ih (j+1) (drop_next hj) live A true hA (by omega) (fun _=>?_) (fun h=>by cases h)
     rcases hc with hc | hc
     ·have:=hch hc;omega
     ·have:left13 live A<left13 live R:=by unfold left13;omega
      omega
    | false=>
     simp only [Bool.false_eq_true,if_false] at hc
     obtain ⟨c1,rfl,c3⟩:=hc
     refine ih (j+1) (drop_next hj) live A false hA hμ (fun h=>by cases h) fun _=>⟨(hno c1).1,fun q m' hq hm'=>?_⟩
     by_cases hqj:q=j
     ·subst hqj;rw [hm] at hm';cases hm';exact c3
     ·exact (hno c1).2 q m' (by omega) hm'
   ·cases ch with
    | true=>simp
    | false=>
     simp only [Bool.false_eq_true,if_false]
     exact ⟨trivial,trivial,fun p r s hp=>absurd hp (Nat.not_lt_zero p)⟩
 have C2:∀ (l:List api_FD) (i:Nat),fds.drop i=l→∀ (live:Nat) (R:List Nat) (ch:Bool),Rows13 (fds.map fN) (blk n fds mvds x) (restN n x) live R→left13 live R≤μ→(ch=true→left13 live R<μ) →
   (ch=false→∀ (q:Nat) (d:api_FD),q<i→fds[q]? = some d→FdDone (fN d) R)→L2 fds mvds (lN R) ch (i:Int) φ:=by
  intro l
  induction l with
  | nil=>
   intro i hi live R ch hR hμ hch hno
   have:=drop_ge hi
   apply L2_step
   rw [if_neg (by omega)]
   refine C4 mvds 0 rfl live R ch hR hμ hch fun h=>⟨fun d hd=>?_,fun q m hq=>absurd hq (Nat.not_lt_zero q)⟩
   obtain ⟨q,hq⟩:=List.getElem?_of_mem hd
   exact hno h q d (by have:=(List.getElem?_eq_some_iff.1 hq).1;omega) hq
  | cons d l ih=>
   intro i hi live R ch hR hμ hch hno
   have hlt:=drop_lt hi
   have hd:=drop_get hi
   have hdm:=List.mem_of_getElem? hd
   have h64:=H.f64
   have hRl:=hR.len hr6
   have hR32:∀ r∈R,r<2^32:=fun r hr=>Nat.lt_of_lt_of_le (hR.lt hr6 hr) (by decide)
   apply L2_step
   rw [if_pos (by omega)]
   refine ⟨d,lget_drop hi,?_⟩
   rw [lN_len]
   refine gones (H.fok d hdm) hR32 (by omega) (fun D hD hg=>?_) R 0 0 rfl (by omega) fun b=>?_
   ·by_cases h0:D=0
    ·subst h0
     rw [if_pos (show ((0:Nat):Int)=0 by omega)]
     apply L9_step
     rw [wrap_succ (by omega)]
     refine ih (i+1) (drop_next hi) live R ch hR hμ hch fun h q d' hq hd'=>?_
     by_cases hqi:q=i
     ·subst hqi;rw [hd] at hd';cases hd';exact hg.done
     ·exact hno h q d' (by omega) hd'
    ·rw [if_neg (by omega)]
     refine puts hD hR32 (by omega) (fun A a1 a2=>?_) R 0 [] rfl (Nat.le_refl 0) List.nodup_nil fun u=>by simp
     obtain ⟨live',hl',hA'⟩:=hR.gone hp hf (List.mem_map.2 ⟨d,hdm,rfl⟩) (H.fok d hdm).2.lt hg h0 a1 a2
     have hAl:=hA'.len hr6
     have hlt2:left13 live' A<left13 live R:=by
      unfold left13
      have:(live'+1)*65≤live*65:=Nat.mul_le_mul_right _ hl'
      omega
     apply L9_step
     rw [wrap_succ (by omega)]
     exact ih (i+1) (drop_next hi) live' A true hA' (by omega) (fun _=>by omega) (fun h=>by cases h)
   ·rw [Nat.zero_testBit]
    constructor
    ·intro h;cases h
    ·rintro ⟨_,p,q,r,s,h1,_⟩;omega
 apply L1_step
 rw [if_pos rfl]
 exact C2 fds 0 rfl live R false hR hμ (fun h=>by cases h) (fun _ q d hq=>absurd hq (Nat.not_lt_zero q))
theorem spec (H:Mix n fds mvds) (hx:x<2^32):∃ live R,Chased n fds mvds x live R∧C n fds mvds x (lN R):=by
 have hn:=H.n6
 obtain ⟨r,⟨live,R,h1,rfl⟩,h2⟩:=enter n fds mvds x (fun r=>∃ live R,Chased n fds mvds x live R∧r=lN R) (by
  refine ⟨by omega,?_⟩
  rw [pow_full (by omega),bAndNot_nat (top32 (pow_lt32 (by omega))) (top32 hx)]
  have:=refute_chase_1.spec (R:=[0]) (x:=ndiff (2^n-1) x) (by decide)
  refine ⟨_,this,?_⟩
  have hR0:Rows13 (fds.map fN) (blk n fds mvds x) (restN n x) (restN n x) (if ndiff (2^n-1) x∈[0] then [0] else [0]++[ndiff (2^n-1) x]):=by
   have hmem:∀ u,u∈(if ndiff (2^n-1) x∈[0] then [0] else [0]++[ndiff (2^n-1) x])↔u=0∨u=restN n x:=by
    intro u
    unfold restN
    split
    ·rename_i h
     simp only [List.mem_singleton] at h ⊢
     rw [h];simp
    ·simp
   refine ⟨?_,?_⟩
   ·split
    ·simp
    ·rename_i h
     simp only [List.mem_singleton] at h
     simp [Ne.symm h]
   ·constructor
    ·exact (hmem _).2 (.inl rfl)
    ·exact (hmem _).2 (.inr rfl)
    ·intro r hr i hi
     rcases (hmem r).1 hr with rfl | rfl
     ·rw [Nat.zero_testBit] at hi;cases hi
     ·exact hi
    ·exact fun i hi=>hi
    ·intro r hr b hb
     rcases (hmem r).1 hr with rfl | rfl
     ·exact .inl fun i _ _=>Nat.zero_testBit i
     ·exact .inr fun i _ h=>h
    ·intro i h1 h2;rw [h1] at h2;cases h2
  exact loop H (fun live R h=>⟨live,R,h,rfl⟩) _ _ _ hR0 (Nat.le_refl _))
 exact ⟨live,R,h1,h2⟩
end refute_chase
end
section
variable {n x:Nat} {fds:List api_FD} {mvds:List api_MVD}
theorem basE_in {n:Nat} (h:basE (n:Int) fds mvds=0):FdIn n fds∧∀ m∈mvds,inU n m.Lhs m.Rhs=true:=by
 unfold basE at h
 split at h
 ·rename_i h0
  have h1:=fdsE_in h0
  rw [Int.toNat_natCast] at h1
  refine ⟨h1,?_⟩
  split at h
  ·cases h
  ·split at h
   ·rename_i h2
    rw [List.all_eq_true] at h2
    intro m hm
    have:=h2 m hm
    rwa [Int.toNat_natCast] at this
   ·cases h
 ·rename_i h0;exact absurd h h0
theorem lim_zero {a b:Nat} (h:Mix n fds mvds) (hv:Val n fds mvds) (ha:a<2^n) (hb:b<2^n):limE (n:Int) fds mvds (a:Int) (b:Int)=0:=by
 have hn:=h.n6
 unfold limE
 have hv:basE (n:Int) fds mvds=0:=hv
 rw [if_pos hv,if_neg (by omega),if_pos]
 unfold inU
 rw [sN_nat,sN_nat,Int.toNat_natCast,decide_eq_true ha,decide_eq_true hb];rfl
theorem Chased.right (h:Mix n fds mvds) (hv:Val n fds mvds) {live:Nat} {R:List Nat} (hc:Chased n fds mvds x live R):(∀ d∈fds,SatP (bltT n R) (sN d.Lhs) (sN d.Rhs))∧∀ m∈mvds,inU (bltT n R).Attrs.length m.Lhs m.Rhs=true∧MvP (bltT n R) (sN m.Lhs) (sN m.Rhs):=by
 have hn:=h.n6
 have hlen:=hc.len hn
 obtain ⟨v1,v2⟩:=basE_in hv
 refine ⟨fun d hd=>?_,fun m hm=>?_⟩
 ·rw [bltT_sat (by omega) (by omega) (v1 d hd).1 (v1 d hd).2]
  exact fun u v hu hv' ha=>hc.done.fd (fN d) (List.mem_map.2 ⟨d,hd,rfl⟩) u v hu hv' ha
 ·have hin:=v2 m hm
  refine ⟨by rw [bltT_na (by omega)];exact hin,?_⟩
  unfold inU at hin
  rw [Bool.and_eq_true,decide_eq_true_eq,decide_eq_true_eq] at hin
  exact bltT_mv (m:=mN m) (by omega) hin.1 hin.2 fun u v hu hv' ha=>hc.done.mv (mN m) (List.mem_map.2 ⟨m,hm,rfl⟩) u v hu hv' ha
theorem Chased.not_fd (h:Mix n fds mvds) {y live:Nat} {R:List Nat} (hx:x<2^n) (hy:y<2^n) (hc:Chased n fds mvds x live R) (hno:¬ ndiff y (cloX n fds mvds x)=0):¬ SatP (bltT n R) x y:=by
 have hn:=h.n6
 have hlen:=hc.len hn
 rw [bltT_sat (by omega) (by omega) hx hy]
 intro hs
 refine hno (ndiff_zero.2 fun i hi=>?_)
 have hag:agreeR x live 0:=fun j hj=>by
  rw [Nat.zero_testBit]
  cases hq:live.testBit j with
  | false=>rfl
  | true=>
   have:=hc.rows.2.lsub j hq
   unfold restN at this
   rw [ndiff_bit,hj] at this
   simp at this
 have:=hs live 0 hc.rows.2.top hc.rows.2.zero hag i hi
 rw [Nat.zero_testBit] at this
 have hin:=lt_iff.1 hy i hi
 rw [← hc.clo h hx,ndiff_bit,Nat.testBit_two_pow_sub_one,this,decide_eq_true hin];rfl
theorem refute_Mixed.spec (h:Mix n fds mvds) (hv:Val n fds mvds) {y:Nat} (hx:x<2^n) (hy:y<2^n):(ndiff y (cloX n fds mvds x)=0∧refute_Mixed.C n fds mvds ⟨x,y⟩ (noT20,10))∨(¬ ndiff y (cloX n fds mvds x)=0∧∃ live R,Chased n fds mvds x live R∧refute_Mixed.C n fds mvds ⟨x,y⟩ (bltT n R,0)):=by
 have hn:=h.n6
 have h32:=h.p32
 obtain ⟨live,R,hc,hC⟩:=refute_chase.spec (x:=x) h (Nat.lt_of_lt_of_le hx h32)
 have hlen:=hc.len hn
 have hlim:=refute_limits.spec (n:=(n:Int)) h.fok h.mok (a:=(x:Int)) (b:=(y:Int)) (U32.of (Nat.lt_of_lt_of_le hx h32)) (U32.of (Nat.lt_of_lt_of_le hy h32))
 rw [lim_zero h hv hx hy] at hlim
 obtain ⟨r,h1,h2⟩:=refute_Mixed.enter n fds mvds ⟨x,y⟩ (fun r=>r=if ndiff y (cloX n fds mvds x)=0 then (noT20,10) else (bltT n R,0)) (by
  refine ⟨_,hlim,?_⟩
  rw [if_pos rfl]
  refine ⟨_,basis_ImpliesFD.spec h hv hx hy,?_⟩
  by_cases h0:ndiff y (cloX n fds mvds x)=0
  ·rw [if_pos (decide_eq_true h0),if_pos h0];rfl
  ·rw [if_neg (by simpa using h0),if_neg h0]
   exact ⟨_,hC,_,refute_build.all (by omega) (fun r hr=>Nat.lt_of_lt_of_le (hc.lt hn hr) h32) (by omega),rfl⟩)
 by_cases h0:ndiff y (cloX n fds mvds x)=0
 ·rw [if_pos h0] at h1
  rw [h1] at h2
  exact .inl ⟨h0,h2⟩
 ·rw [if_neg h0] at h1
  rw [h1] at h2
  exact .inr ⟨h0,live,R,hc,h2⟩
end
theorem awake20:drosslaw20_awake.C true:=by
 have H:Mix 3 [] [⟨1,2⟩]:=by
  refine ⟨by decide,(fun d hd=>by cases hd),(fun d hd=>?_),by decide,by decide⟩
  rw [List.mem_singleton] at hd
  subst hd
  exact ⟨U32.of (n:=1) (by decide),U32.of (n:=2) (by decide)⟩
 have V:Val 3 [] [⟨1,2⟩]:=by
  unfold Val;decide
 have hno:¬ ndiff 2 (cloX 3 [] [⟨1,2⟩] 1)=0:=by
  intro h
  have:=ndiff_zero.1 h 1 (by decide)
  unfold cloX at this
  rw [ofBits_bit,Bool.and_eq_true,Bool.or_eq_true,decide_eq_true_eq,decide_eq_true_eq] at this
  rcases this.2 with h | ⟨_,d,hd,_⟩
  ·revert h;decide
  ·cases hd
 rcases refute_Mixed.spec H V (x:=1) (y:=2) (by decide) (by decide) with ⟨h,_⟩ | ⟨_,live,R,hc,hC⟩
 ·exact absurd h hno
 ·have hlen:=hc.len (by decide)
  have hT:=bltT_TV (n:=3) (R:=R) (by decide) (by omega)
  obtain ⟨r1,r2⟩:=hc.right H V
  obtain ⟨b,hb,hbi⟩:=drossref08_sat hT (d:=⟨1,2⟩) (U32.of (n:=1) (by decide)) (U32.of (n:=2) (by decide))
  have hbf:b=false:=by
   cases b with
   | false=>rfl
   | true=>exact absurd (hbi.1 rfl) (hc.not_fd H (x:=1) (y:=2) (by decide) (by decide) hno)
  subst hbf
  obtain ⟨r,h1,h2⟩:=drosslaw20_awake.enter (fun r=>r=true) (by
   refine ⟨_,ex20a,_,ex20b,_,hC,_,ex20d,?_⟩
   refine ite_in rfl ⟨_,ex20e,?_⟩
   refine ite_in rfl (ite_in rfl (ite_in rfl ⟨_,drossref03_Valid.spec,?_⟩))
   refine ite_in (tableF_iff.2 hT) (ite_in ?_ ⟨_,drossref20_Right.both hT (fun d hd=>by cases hd) H.mok (by decide) (by decide) r1 r2,?_⟩)
   ·show ((bltT 3 R).Attrs.length:Int)=3
    rw [bltT_na (by decide)];rfl
   ·exact ite_in rfl ⟨_,hb,ite_out (by decide) rfl⟩)
  subst h1;exact h2
theorem drosslaw20_sets.spec {n:Nat} {a b:Int} (hn:n≤16) (ha:0≤a∧a<256) (hb:0≤b∧b<256):drosslaw20_sets.C n (a,b) (((sN a &&& (2^n-1):Nat):Int),((sN b &&& (2^n-1):Nat):Int)):=by
 obtain ⟨r,h1,h2⟩:=drosslaw20_sets.enter n (a,b) (fun r=>r=(((sN a &&& (2^n-1):Nat):Int),((sN b &&& (2^n-1):Nat):Int))) ⟨_,full_spec hn,by
  dsimp only
  rw [dep_and ha hn,dep_and hb hn]⟩
 rw [← h1];exact h2
namespace drosslaw20_RefuteMixed
theorem again {φ:Bool→Prop} (h:φ true):L1 φ:=L1_step φ ⟨true,awake20,h⟩
theorem spec (x:drossref13_Mixed) (w:Int×Int) (hN:0≤x.D.N∧x.D.N<256) (hL:DepOK x.D.L) (hM:DepOK x.M) (h1:x.D.L.length≤4000000) (h2:x.M.length≤4000000) (hw1:0≤w.1∧w.1<256) (hw2:0≤w.2∧w.2<256):C x w true:=by
 obtain ⟨r,e1,e2⟩:=enter x w (fun r=>r=true) (by
  refine ⟨_,drossref13_Of.exact hN hL hM h1 h2,true,awake20,?_⟩
  rw [if_pos rfl]
  by_cases hok:x.D.L.length≤6∧x.M.length≤4
  ·rw [if_pos (decide_eq_true hok)]
   have hn:=depN_lt (N:=x.D.N)
   have H:=mix_of (n:=depN x.D.N) hn hok.1 hok.2
   have V:=val_of (n:=depN x.D.N) hn hok.1 hok.2
   generalize depN x.D.N=n at *
   generalize hf:depL n x.D.L=fds at *
   generalize hg:mvL (depL n x.M)=mvds at *
   generalize decide (x.D.L.length≤6∧x.M.length≤4)=ok
   refine ⟨_,drosslaw20_sets.spec (by omega) hw1 hw2,?_⟩
   generalize hq:sN w.1 &&& (2^n-1)=q
   generalize hr:sN w.2 &&& (2^n-1)=r
   have hqn:q<2^n:=by rw [← hq];exact and_pow
   have hrn:r<2^n:=by rw [← hr];exact and_pow
   have h32:=H.p32
   have hsub:=drossref02_Sub.spec (Nat.lt_of_lt_of_le hrn h32) (Nat.lt_of_lt_of_le (cloX_lt (n:=n) (fds:=fds) (mvds:=mvds) (x:=q)) h32)
   have e:decide (r &&& cloX n fds mvds q=r)=decide (ndiff r (cloX n fds mvds q)=0):=by
    rw [Bool.eq_iff_iff,decide_eq_true_eq,decide_eq_true_eq,ndiff_zero,sub_iff]
   rw [e] at hsub
   have hcl:=drossref13_Close.spec H hqn
   rcases refute_Mixed.spec H V hqn hrn with ⟨h0,hC⟩ | ⟨h0,live,R,hc,hC⟩
   ·refine ⟨_,hC,_,hcl,_,hsub,?_⟩
    rw [if_pos (decide_eq_true h0),if_pos rfl]
    rfl
   ·have hlen:=hc.len hn
    have hT:=bltT_TV (n:=n) (R:=R) (by omega) (by omega)
    obtain ⟨r1,r2⟩:=hc.right H V
    refine ⟨_,hC,_,hcl,_,hsub,?_⟩
    rw [if_neg (by simpa using h0),if_pos rfl]
    refine ⟨_,drossref03_Valid.spec,?_⟩
    rw [if_pos (tableF_iff.2 hT),if_pos (by show ((bltT n R).Attrs.length:Int)=n;rw [bltT_na (by omega)])]
    refine ⟨_,drossref20_Right.both (l:=fds) (ms:=mvds) hT H.fok H.mok (by have:=H.f64;omega) (by have:=H.m64;omega) r1 r2,?_⟩
    rw [if_pos rfl]
    obtain ⟨b,hb,hbi⟩:=drossref08_sat hT (d:=⟨(q:Int),(r:Int)⟩) (U32.of (Nat.lt_of_lt_of_le hqn h32)) (U32.of (Nat.lt_of_lt_of_le hrn h32))
    refine ⟨b,hb,?_⟩
    cases b with
    | false=>rfl
    | true=>
     have:=hbi.1 rfl
     simp only [sN_nat] at this
     exact absurd this (hc.not_fd H hqn hrn h0)
  ·rw [if_neg (by rw [decide_eq_true_eq];exact hok)]
   exact again rfl)
 subst e1;exact e2
theorem law {xs:List D} (hx:TyAll env.P drosslaw20_RefuteMixed_K drosslaw20_RefuteMixed_T xs) (hw:wtL xs≤1048576):Ret env drosslaw20_RefuteMixed_F xs (.lit (.bool true)) []:=by
 obtain ⟨x0,x1,h0,h1,e⟩:=drosslaw20_RefuteMixed_args (P:=env.P) tf hx
 rw [e] at hw ⊢
 have hlen:x0.D.L.length≤4000000∧x0.M.length≤4000000:=by
  have h1:=wtLL_len (x0.D.L.map enc_drossref09_Dep)
  have h2:=wtLL_len (x0.M.map enc_drossref09_Dep)
  rw [List.length_map] at h1 h2
  simp only [enc_drossref13_Mixed,wtL,wt] at hw
  omega
 exact spec x0 x1 (u8_of h0.1.1) (fun x hx=>⟨u8_of (h0.1.2.2 x hx).1,u8_of (h0.1.2.2 x hx).2⟩) (fun x hx=>⟨u8_of (h0.2.2 x hx).1,u8_of (h0.2.2 x hx).2⟩) hlen.1 hlen.2 (u8_of h1.1) (u8_of h1.2)
end drosslaw20_RefuteMixed
end Go.Own
