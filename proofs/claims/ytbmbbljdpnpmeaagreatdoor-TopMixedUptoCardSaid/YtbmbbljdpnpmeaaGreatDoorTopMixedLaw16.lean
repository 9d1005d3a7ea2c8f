/- No conditions. -/
import Derived.Test.YtbmbbljdpnpmeaaGreatDoorTopMixedLaw15
import Derived.Test.YtbmbbljdpnpmeaaGreatDoorTopMixedLaw7
set_option linter.all false
namespace Go.Own
def depL (n:Nat) (L:List drossref09_Dep):List api_FD:=L.map fun x=>{ Lhs:=((sN x.L &&& (2^n-1):Nat):Int),Rhs:=((sN x.R &&& (2^n-1):Nat):Int) }
def Amo (L:List drossref09_Dep):Prop:=∀ x∈L,(0<=x.L/\x.L<256)/\0<=x.R/\x.R<256
theorem Bb9 {x:Int} (h:0<=x/\x<256) {n:Nat} (hn:n<=16):bAnd .u32 (IntKind.wrap .u32 x) ((2^n-1:Nat):Int)=((sN x &&& (2^n-1):Nat):Int):=by
 have hp:=Aqb hn;have e:x=((sN x:Nat):Int):=by unfold sN;omega
 have e2:IntKind.wrap .u32 x=((sN x:Nat):Int):=by
  conv=>lhs;rw [e]
  exact Adh (k:=.u32) (by simp only [top];unfold sN;omega)
 rw [e2];exact Adq (k:=.u32) (by simp only [top];unfold sN;omega) (by simp only [top];omega)
theorem Ah4 {x n:Nat}:x &&& (2^n-1)<2^n:=by
 have:=Nat.and_le_right (n:=x) (m:=2^n-1);have:0<2^n:=Nat.pow_pos (by omega);omega
theorem q40_.spec {n:Nat} {L:List drossref09_Dep} (hn:n<=16) (hL:Amo L) (hlen:L.length<=4000000):q40_.C n L (depL n L):=by
 obtain ⟨r,h1,h2⟩:=q40_.enter n L (fun r=>r=depL n L) (by
  refine ⟨_,Bes hn,?_⟩;have:∀ (r:List drossref09_Dep) (k:Nat),L.drop k=r->k<=L.length->q40_.L1 L ((2^n-1:Nat):Int) (depL n (L.take k)) k (fun r=>r=depL n L):=by
   intro r
   induction r with
   | nil=>
    intro k hd hk;have:=Aay hd;apply q40_.L1_step;rw [if_neg (by omega),List.take_of_length_le (by omega)]
   | cons x r ih=>
    intro k hd hk;have hlt:=Aaz hd;have hx:=hL x (List.mem_of_getElem? (Aaq hd));have next:=ih (k+1) (Aa8 hd) (by omega);rw [List.take_add_one,Aaq hd,Option.toList_some] at next;unfold depL at next;rw [List.map_append,List.map_cons,List.map_nil] at next;apply q40_.L1_step;rw [if_pos (by omega)];refine ⟨x,Abi hd,?_⟩;rw [Bb9 hx.1 hn,Bb9 hx.2 hn,Aa3 (by omega)];exact ⟨by unfold depL;rw [List.length_map,List.length_take];omega,next⟩
  exact this L 0 rfl (Nat.zero_le _))
 rw [← h1];exact h2
def depN (N:Int):Nat:=(N % 7).toNat
theorem Aq1 {N:Int}:depN N<=6:=by unfold depN;omega
theorem q52_.spec {d:drossref09_Deps} (hN:0<=d.N/\d.N<256) (hL:Amo d.L) (hlen:d.L.length<=4000000):q52_.C d (((depN d.N:Nat):Int),depL (depN d.N) d.L,decide ((d.L.length:Int)<=6)):=by
 obtain ⟨r,h1,h2⟩:=q52_.enter d (fun r=>r=(((depN d.N:Nat):Int),depL (depN d.N) d.L,decide ((d.L.length:Int)<=6))) (by
  have e:IntKind.wrap .i64 (Int.tmod d.N 7)=((depN d.N:Nat):Int):=by
   rw [Int.tmod_eq_emod_of_nonneg hN.1];have:d.N % 7=((depN d.N:Nat):Int):=by unfold depN;omega
   rw [this];exact Adh (k:=.i64) (by simp only [top];have:=Aq1 (N:=d.N);omega)
  rw [e]
  exact ⟨_,q40_.spec (by have:=Aq1 (N:=d.N);omega) hL hlen,rfl⟩)
 rw [← h1];exact h2
theorem As7:∀ (es:List (List D)),es.length<=wtLL es
 | []=>Nat.le_refl _
 | x::r=>by simp only [wtLL,List.length_cons];have:=As7 r;omega
theorem Bb8 {n:Nat} {L:List drossref09_Dep} (hn:n<=16):FdOK (depL n L):=fun d hd=>by
 obtain ⟨x,_,rfl⟩:=List.mem_map.1 hd;have hp:=Aqb hn;exact ⟨U32.of (Nat.lt_of_lt_of_le Ah4 (by omega)),U32.of (Nat.lt_of_lt_of_le Ah4 (by omega))⟩
theorem Ak5 {n:Nat} {L:List drossref09_Dep}:(depL n L).length=L.length:=by simp [depL]
theorem Bgw {n:Nat} {L:List drossref09_Dep} (hn:n<=6) (hl:L.length<=6):errA (n:Int) (depL n L)=0:=by
 have h0:fdsE (n:Int) (depL n L)=0:=by
  unfold fdsE;rw [if_neg (by omega),if_neg (by rw [Ak5];omega),if_pos];rw [List.all_eq_true];intro d hd;obtain ⟨x,_,rfl⟩:=List.mem_map.1 hd;unfold inU;rw [Aej,Aej,Int.toNat_natCast,decide_eq_true Ah4,decide_eq_true Ah4];rfl
 unfold errA;rw [if_pos h0,if_neg (by omega)]
structure Mix (n:Nat) (fds:List api_FD) (mvds:List api_MVD):Prop where
 n6:n<=6
 fok:FdOK fds
 mok:Ahe mvds
 f64:fds.length<=64
 m64:mvds.length<=64
def Adx (n x:Nat):Nat:=Aa4 (2^n-1) x
theorem Bhz {n:Nat} (hn:n<=16):2^n-1<2^32:=Nat.lt_of_lt_of_le (Nat.sub_lt (Nat.pow_pos (by omega)) (by omega)) (Nat.pow_le_pow_right (by omega) (by omega))
theorem Anm {n x:Nat} (hn:n<=16):Adx n x<2^n:=Nat.lt_of_le_of_lt Adt (Nat.sub_lt (Nat.pow_pos (by omega)) (by omega))
theorem Ary {n x:Nat} (hn:n<=16):Adx n x<2^32:=Nat.lt_of_lt_of_le (Anm hn) (Nat.pow_le_pow_right (by omega) (by omega))
theorem Auy {n x:Nat} (hn:n<=6):Adx n x<2^6:=Nat.lt_of_lt_of_le (Anm (by omega)) (Nat.pow_le_pow_right (by omega) (by omega))
theorem Bl8 {n x:Nat}:Adx n x &&& x=0:=Abx.2 fun i hi=>by
 unfold Adx at hi;rw [Aag,Bool.and_eq_true,Bool.not_eq_true'] at hi;exact hi.2
def blk (n:Nat) (fds:List api_FD) (mvds:List api_MVD) (x:Nat):List Nat:=finB (fds.map fN) (mvds.map mN) (Adx n x)
structure Chased (n:Nat) (fds:List api_FD) (mvds:List api_MVD) (x live:Nat) (R:List Nat):Prop where
 rows:Ado (fds.map fN) (blk n fds mvds x) (Adx n x) live R
 done:Closed2 (fds.map fN) (mvds.map mN) fun u=>u∈R
section
variable {n x:Nat} {fds:List api_FD} {mvds:List api_MVD}
theorem Mix.part (h:Mix n fds mvds):BPart (Adx n x) (blk n fds mvds x):=(Arm (Ary (by have:=h.n6;omega))).1
theorem Mix.fin (h:Mix n fds mvds):BFin (Ais (fds.map fN) (mvds.map mN)) (blk n fds mvds x):=(Arm (Ary (by have:=h.n6;omega))).2
theorem Bef {R:List Nat} (h1:∀ d∈fds,As8 (fN d) R) (h2:∀ m∈mvds,Axk (mN m) R):Closed2 (fds.map fN) (mvds.map mN) fun u=>u∈R where
 fd d hd r s hr hs ha:=by obtain ⟨f,hf,rfl⟩:=List.mem_map.1 hd;exact h1 f hf r s hr hs ha
 mv m hm r s hr hs ha:=by obtain ⟨f,hf,rfl⟩:=List.mem_map.1 hm;exact h2 f hf r s hr hs ha
def Ae4 (live:Nat) (R:List Nat):Nat:=live*65+(64-R.length)
theorem Chased.lt {live:Nat} {R:List Nat} (h:Chased n fds mvds x live R) (hn:n<=6) {r:Nat} (hr:r∈R):r<2^n:=h.rows.lt (Anm (by omega)) hr
theorem Chased.len {live:Nat} {R:List Nat} (h:Chased n fds mvds x live R) (hn:n<=6):R.length<=64:=h.rows.len (Auy hn)
theorem Mix.f32 (h:Mix n fds mvds):∀ d∈fds.map fN,d.2<2^32:=fun d hd=>by
 obtain ⟨f,hf,rfl⟩:=List.mem_map.1 hd;exact (h.fok f hf).2.lt
def cloX (n:Nat) (fds:List api_FD) (mvds:List api_MVD) (x:Nat):Nat:=Agn (fun i=>x.testBit i || decide (2^i∈blk n fds mvds x/\∃ d∈fds.map fN,d.2.testBit i=true/\d.1.testBit i=false)) n
theorem Bb7:cloX n fds mvds x<2^n:=Ap7 n
theorem Chased.clo (h:Mix n fds mvds) (hx:x<2^n) {live:Nat} {R:List Nat} (hc:Chased n fds mvds x live R):Aa4 (2^n-1) live=cloX n fds mvds x:=by
 have hn:=h.n6;apply Nat.eq_of_testBit_eq;intro i;unfold cloX;rw [Aju,Aag,Nat.testBit_two_pow_sub_one];by_cases hi:i<n
 ·simp only [hi,decide_true,Bool.true_and];have hl:=Bhl (Ary (by omega)) Bl8 h.f32 hc.rows.2 hc.done i;have hrest:(Adx n x).testBit i=!x.testBit i:=by
   unfold Adx;rw [Aag,Nat.testBit_two_pow_sub_one];simp [hi]
  rw [hrest,Bool.not_eq_true'] at hl;cases hxi:x.testBit i with
  | true=>
   have:live.testBit i=false:=by
    cases hq:live.testBit i with
    | false=>rfl
    | true=>
     have:=hc.rows.2.lsub i hq;rw [hrest,hxi] at this;cases this
   rw [this];rfl
  | false=>
   rw [Bool.false_or,Bool.eq_iff_iff,Bool.not_eq_true',decide_eq_true_eq];constructor
   ·intro hq;exact hl.1 ⟨hxi,hq⟩
   ·intro hq;exact (hl.2 hq).2
 ·simp [hi]
end
def bltR (n:Nat):List Nat->Nat->List api_Row
 | [],_=>[]
 | r::R,k=>⟨((k+1:Nat):Int),rowV n r⟩::bltR n R (k+1)
theorem Ay4 {n:Nat}:∀ {R:List Nat} {k:Nat},(bltR n R k).length=R.length
 | [],_=>rfl
 | r::R,k=>by simp only [bltR,List.length_cons];rw [Ay4]
theorem Amv {n:Nat}:∀ {R:List Nat} {k i:Nat},(bltR n R k)[i]? = R[i]?.map fun r=>(⟨((k+i+1:Nat):Int),rowV n r⟩:api_Row)
 | [],_,i=>by simp [bltR]
 | r::R,k,0=>by simp [bltR]
 | r::R,k,i+1=>by
  simp only [bltR,List.getElem?_cons_succ];rw [Amv,show k+1+i+1=k+(i+1)+1 by omega]
def bltT (n:Nat) (R:List Nat):api_Table:=⟨⟨#[116]⟩,abcK.take n,bltR n R 0⟩
theorem q60_.all {n:Nat} {R:List Nat} (hn:n<=16) (hR:∀ r∈R,r<2^32) (hl:R.length<=1000):q60_.C n (lN R) (bltT n R):=by
 obtain ⟨r,h1,h2⟩:=q60_.enter n (lN R) (fun r=>r=bltT n R) (by
  have rows:∀ (l:List Nat) (k:Nat) (acc:List api_Row),R.drop k=l->acc.length=k->acc++bltR n l k=bltR n R 0->q60_.L2 n (lN R) (abcK.take n) acc (k:Int) (fun r=>r=bltT n R):=by
   intro l
   induction l with
   | nil=>
    intro k acc hk _ ha;have:=Aay hk;apply q60_.L2_step;rw [if_neg (by rw [Ads];omega)];unfold bltT;rw [← ha];simp [bltR]
   | cons a l ih=>
    intro k acc hk hac ha;have hlt:=Aaz hk;have hg:=Aaq hk;apply q60_.L2_step;rw [if_pos (by rw [Ads];omega)];refine ⟨_,Am8 hg,?_⟩;rw [Aa3 (by omega)];refine q60_.cells (m:=a) (k:=k) (rows:=acc) hn (hR a (List.mem_of_getElem? hg)) (by omega) (by omega) ?_ n 0 (by omega);refine ih (k+1) _ (Aa8 hk) (by simp [hac]) ?_;rw [← ha];simp [bltR]
  have:∀ (d i:Nat),d+i=n->q60_.L1 n (lN R) (abcK.take i) i (fun r=>r=bltT n R):=by
   intro d
   induction d with
   | zero=>
    intro i hd;have:i=n:=by omega
    subst this;apply q60_.L1_step;rw [if_neg (by omega)];exact rows R 0 [] rfl rfl rfl
   | succ d ih=>
    intro i hd;have next:=ih (i+1) (by omega);rw [Be1 (by omega),← Bgf ⟨i,by omega⟩] at next;apply q60_.L1_step;rw [if_pos (by omega),Aa3 (by omega)];exact ⟨by rw [Axs (by omega)];omega,next⟩
  exact this n 0 rfl)
 rw [← h1];exact h2
section
variable {n:Nat} {R:List Nat}
theorem Ay3 (n:Nat):∀ (R:List Nat) (k:Nat) (last:Int),last<=k->Af2 n last (bltR n R k)=0
 | [],_,_,_=>rfl
 | r::R,k,last,h=>by
  simp only [bltR];rw [Af2,if_neg (by show ¬ ((k+1:Nat):Int)<=last;omega),if_pos Azs,if_pos Bde];exact Ay3 n R (k+1) _ (by show ((k+1:Nat):Int)<=_;omega)
theorem Amw:(bltT n R).Rows.length=R.length:=Ay4
theorem Ak0 (hn:n<=16):(bltT n R).Attrs.length=n:=Axs hn
theorem Bb6 (hn:n<=16) (hl:R.length<=1000):TV (bltT n R) where
 name:=Bfe (by decide)
 na:=by rw [Ak0 hn];exact hn
 nr:=by rw [Amw];exact hl
 names:=Bbz
 rows:=by rw [Ak0 hn];exact Ay3 n R 0 0 (Int.le_refl _)
theorem Are {i k r s a:Nat} (hi:R[i]? = some r) (hk:R[k]? = some s) (ha:a<n):EqA (bltT n R) i k a↔r.testBit a=s.testBit a:=by
 unfold EqA bltT;show ((bltR n R 0)[i]?.map fun r=>r.Values[a]?)=((bltR n R 0)[k]?.map fun r=>r.Values[a]?)↔_;rw [Amv,Amv,hi,hk];show some ((rowV n r)[a]?)=some ((rowV n s)[a]?)↔_;rw [Azr ha,Azr ha];cases r.testBit a<;>cases s.testBit a<;>simp [bitV]
theorem At2 {i:Nat} (h:i<R.length):∃ r,R[i]? = some r/\r∈R:=⟨R[i],List.getElem?_eq_getElem h,List.getElem_mem h⟩
theorem Aex {l i k r s:Nat} (hl:l<2^n) (hi:R[i]? = some r) (hk:R[k]? = some s):(∀ a,l.testBit a=true->EqA (bltT n R) i k a)↔Abh l r s:=
 forall_congr' fun a=>forall_congr' fun ha=>Are hi hk (Ace.1 hl a ha)
theorem Ay6 {l r:Nat} (hn:n<=16) (hlen:R.length<=1000) (hl:l<2^n) (hr:r<2^n):SatP (bltT n R) l r↔∀ u v,u∈R->v∈R->Abh l u v->Abh r u v:=by
 have hp:=Aqb hn;rw [Bl9 (Bb6 hn hlen) (by omega) (by omega),Amw];constructor
 ·intro h u v hu hv ha;obtain ⟨i,hi⟩:=List.getElem?_of_mem hu;obtain ⟨k,hk⟩:=List.getElem?_of_mem hv;have hil:=(List.getElem?_eq_some_iff.1 hi).1;have hkl:=(List.getElem?_eq_some_iff.1 hk).1;rcases Nat.lt_trichotomy k i with hlt | he | hlt
  ·exact (Aex hr hi hk).1 (h i k hil hlt ((Aex hl hi hk).2 ha))
  ·subst he;rw [hi] at hk;cases hk;exact fun _ _=>rfl
  ·exact fun b hb=>((Aex hr hk hi).1 (h k i hkl hlt ((Aex hl hk hi).2 fun b hb=>(ha b hb).symm)) b hb).symm
 ·intro h i k hi hk e;obtain ⟨u,hu,hum⟩:=At2 hi;obtain ⟨v,hv,hvm⟩:=At2 (R:=R) (i:=k) (by omega);exact (Aex hr hu hv).2 (h u v hum hvm ((Aex hl hu hv).1 e))
theorem Biw {m:Nat×Nat} (hn:n<=16) (hl:m.1<2^n) (hr:m.2<2^n) (h:∀ u v,u∈R->v∈R->Abh m.1 u v->mixR m u v∈R):MvP (bltT n R) m.1 m.2:=by
 intro i k hi hk e;rw [Amw] at hi hk;obtain ⟨u,hu,hum⟩:=At2 hi;obtain ⟨v,hv,hvm⟩:=At2 hk;obtain ⟨j,hj⟩:=List.getElem?_of_mem (h u v hum hvm ((Aex hl hu hv).1 e));refine ⟨j,by rw [Amw];exact (List.getElem?_eq_some_iff.1 hj).1,fun a ha=>?_,fun a ha hb=>?_⟩
 ·rw [Are hj hu (Ace.1 (Nat.or_lt_two_pow hl hr) a ha),Afu,if_pos ha]
 ·rw [Ak0 hn] at ha;rw [Are hj hv ha,Afu,if_neg (by rw [hb];simp)]
end
def errS (n:Int) (l:List api_FD) (m:List api_MVD) (a b:Int):Int:=if basE n l m=0 then (if inU n.toNat a b=true then 0 else 1) else basE n l m
theorem Be6 {n:Int} {l:List api_FD} {m:List api_MVD} (h:basE n l m=0):0<=n/\n<=16:=by
 unfold basE at h
 split at h
 ·rename_i h0;exact Ayj h0
 ·rename_i h0;exact absurd h h0
theorem or_self {a:Int} (ha:U32 a):bOr .u32 a a=a:=by
 have:=Aee (k:=.u32) ha.top ha.top;rw [← ha.eq,Nat.or_self,← ha.eq] at this;exact this
theorem Bh9 {n:Nat} {a:Int}:inU n a 0=inU n a a:=by
 unfold inU;have:sN 0<2^n:=Nat.pow_pos (by omega);rw [decide_eq_true this,Bool.and_true,Bool.and_self]
theorem q68_.spec {n:Int} {l:List api_FD} {m:List api_MVD} {a b:Int} (hl:FdOK l) (hm:Ahe m) (ha:U32 a) (hb:U32 b):q68_.C n l m (bOr .u32 a b) (errS n l m a b):=by
 obtain ⟨r,h1,h2⟩:=q68_.enter n l m (bOr .u32 a b) (fun r=>r=errS n l m a b) (by
  refine ⟨_,q66_.spec hl hm,?_⟩;unfold errS;by_cases h0:basE n l m=0
  ·rw [if_pos h0,if_pos h0];obtain ⟨q,rfl⟩:∃ q:Nat,n=q:=⟨n.toNat,by have:=Be6 h0;omega⟩
   refine ⟨by omega,?_⟩;have e:=Bcr (n:=q) ha hb;rw [Int.toNat_natCast];by_cases h:inU q a b=true
   ·rw [if_pos (e.2 h),if_pos h]
   ·rw [if_neg (fun hh=>h (e.1 hh)),if_neg h]
  ·rw [if_neg h0,if_neg h0])
 rw [← h1];exact h2
theorem q68_.one {n:Int} {l:List api_FD} {m:List api_MVD} {a:Int} (hl:FdOK l) (hm:Ahe m) (ha:U32 a):q68_.C n l m a (errS n l m a 0):=by
 have:=q68_.spec (n:=n) hl hm ha ha;rw [or_self ha] at this;have e:errS n l m a a=errS n l m a 0:=by unfold errS;rw [Bh9]
 rw [e] at this;exact this
def mvL (l:List api_FD):List api_MVD:=l.map fun d=>⟨d.Lhs,d.Rhs⟩
theorem Bmy {l:List api_FD} (h:FdOK l):Ahe (mvL l):=fun d hd=>by
 obtain ⟨x,hx,rfl⟩:=List.mem_map.1 hd;exact h x hx
theorem q41_.spec {n:Nat} {L:List drossref09_Dep} (hn:n<=16) (hL:Amo L) (hlen:L.length<=4000000):q41_.C n L (mvL (depL n L)):=by
 obtain ⟨r,h1,h2⟩:=q41_.enter n L (fun r=>r=mvL (depL n L)) (by
  refine ⟨_,q40_.spec hn hL hlen,?_⟩;have hdl:(depL n L).length<=4000000:=by rw [Ak5];exact hlen
  generalize depL n L=x at *;have go:∀ (r:List api_FD) (k:Nat) (out:List api_MVD),x.drop k=r->out.length<=k->out++mvL r=mvL x->q41_.L1 out x (k:Int) (fun r=>r=mvL x):=by
   intro r
   induction r with
   | nil=>
    intro k out hd hk h;have:=Aay hd;apply q41_.L1_step;rw [if_neg (by omega)];simpa [mvL] using h
   | cons a r ih=>
    intro k out hd hk h;have hlt:=Aaz hd;apply q41_.L1_step;rw [if_pos (by omega)];refine ⟨a,Abi hd,by omega,?_⟩;rw [Aa3 (by omega)];exact ih (k+1) _ (Aa8 hd) (by rw [List.length_append];simp only [List.length_cons,List.length_nil];omega) (by rw [List.append_assoc];exact h)
  exact go x 0 [] rfl (Nat.le_refl 0) rfl)
 rw [← h1];exact h2
def limE (n:Int) (l:List api_FD) (m:List api_MVD) (a b:Int):Int:=if basE n l m=0 then (if 8<n then 3 else if inU n.toNat a b=true then 0 else 1) else basE n l m
theorem q54_.spec {n:Int} {l:List api_FD} {m:List api_MVD} {a b:Int} (hl:FdOK l) (hm:Ahe m) (ha:U32 a) (hb:U32 b):q54_.C n l m a b (limE n l m a b):=by
 obtain ⟨r,h1,h2⟩:=q54_.enter n l m a b (fun r=>r=limE n l m a b) (by
  refine ⟨_,q66_.spec hl hm,?_⟩;unfold limE;by_cases h0:basE n l m=0
  ·rw [if_pos h0,if_pos h0];obtain ⟨q,rfl⟩:∃ q:Nat,n=q:=⟨n.toNat,by have:=Be6 h0;omega⟩
   by_cases h8:8<(q:Int)
   ·rw [if_pos h8,if_pos h8]
   ·rw [if_neg h8,if_neg h8];refine ⟨_,q51_.spec ha hb,?_⟩;rw [Int.toNat_natCast]
    split<;>rfl
  ·rw [if_neg h0,if_neg h0])
 rw [← h1];exact h2
section
variable {n x:Nat} {fds:List api_FD} {mvds:List api_MVD}
def blkL (n:Nat) (fds:List api_FD) (mvds:List api_MVD) (x:Nat):List Int:=ordL (lN (blk n fds mvds x))
theorem Mix.blk_lt (h:Mix n fds mvds) {b:Nat} (hb:b∈blk n fds mvds x):b<2^n:=(h.part (x:=x)).lt (Anm (by have:=h.n6;omega)) hb
theorem Mix.p32 (h:Mix n fds mvds):2^n<=2^32:=Nat.pow_le_pow_right (by omega) (by have:=h.n6;omega)
theorem Mix.allU (h:Mix n fds mvds):AllU (lN (blk n fds mvds x)):=fun y hy=>by
 obtain ⟨b,hb,rfl⟩:=List.mem_map.1 hy;exact U32.of (Nat.lt_of_lt_of_le (h.blk_lt hb) h.p32)
theorem Mix.blkL_mem (h:Mix n fds mvds) {y:Int}:y∈blkL n fds mvds x↔∃ b∈blk n fds mvds x,y=(b:Int):=by
 unfold blkL;rw [Azl h.allU];unfold lN;rw [List.mem_map];exact ⟨fun ⟨b,h1,h2⟩=>⟨b,h1,h2.symm⟩,fun ⟨b,h1,h2⟩=>⟨b,h1,h2.symm⟩⟩
theorem Mix.blkL_len (h:Mix n fds mvds):(blkL n fds mvds x).length<=6:=by
 have h1:=Bhw (l:=lN (blk n fds mvds x));have h2:=(h.part (x:=x)).len (Auy h.n6);rw [Ads] at h1;unfold blkL;omega
def Val (n:Nat) (fds:List api_FD) (mvds:List api_MVD):Prop:=basE (n:Int) fds mvds=0
theorem Avs {a b:Nat} (hv:Val n fds mvds) (ha:a<2^n) (hb:b<2^n):errS (n:Int) fds mvds (a:Int) (b:Int)=0:=by
 unfold errS;have hv:basE (n:Int) fds mvds=0:=hv;rw [if_pos hv,if_pos];unfold inU;rw [Aej,Aej,Int.toNat_natCast,decide_eq_true ha,decide_eq_true hb];rfl
theorem q68_.ok (h:Mix n fds mvds) (hv:Val n fds mvds) (hx:x<2^n):q68_.C n fds mvds x 0:=by
 have:=q68_.one (n:=(n:Int)) h.fok h.mok (a:=(x:Int)) (U32.of (Nat.lt_of_lt_of_le hx h.p32));have e:errS (n:Int) fds mvds (x:Int) 0=0:=Avs (b:=0) hv hx (Nat.pow_pos (by omega));rw [e] at this;exact this
theorem q68_.ok2 (h:Mix n fds mvds) (hv:Val n fds mvds) {y:Nat} (hx:x<2^n) (hy:y<2^n):q68_.C n fds mvds (bOr .u32 (x:Int) (y:Int)) 0:=by
 have:=q68_.spec (n:=(n:Int)) h.fok h.mok (a:=(x:Int)) (b:=(y:Int)) (U32.of (Nat.lt_of_lt_of_le hx h.p32)) (U32.of (Nat.lt_of_lt_of_le hy h.p32));rw [Avs hv hx hy] at this;exact this
theorem q61_.ok (h:Mix n fds mvds) (hx:x<2^n):q61_.C n (allI fds mvds) x (blkL n fds mvds x):=
 q61_.all (by have:=h.n6;omega) (Nat.lt_of_lt_of_le hx h.p32) h.fok h.mok h.f64 h.m64
theorem Bbp {b:Nat} (hb:b<2^32):szN b=1↔∃ j,j<32/\b=2^j:=by
 unfold szN;constructor
 ·intro h;obtain ⟨j,hj⟩:=List.length_eq_one_iff.1 h;have hjb:=(Ab1 hb).1 (by rw [hj];simp:j∈Aah b);refine ⟨j,Ace.1 hb j hjb,?_⟩;apply Nat.eq_of_testBit_eq;intro i;rw [Acn,Bool.eq_iff_iff,decide_eq_true_eq,← Ab1 hb,hj,List.mem_singleton];exact eq_comm
 ·rintro ⟨j,hj,rfl⟩;have hm:∀ i,i∈Aah (2^j)↔j=i:=fun i=>by rw [Ab1 hb,Acn,decide_eq_true_eq]
  have hs:=Agr (n:=2^j)
  match hq:Aah (2^j),hm,hs with
  | [],hm,_=>exact absurd ((hm j).2 rfl) (by simp)
  | [a],_,_=>rfl
  | a::b::l,hm,hs=>
   have h1:=(hm a).1 (by simp);have h2:=(hm b).1 (by simp);have:=(List.pairwise_cons.1 hs).1 b (by simp);omega
def detB (fds:List api_FD) (b:Nat):Bool:=decide (szN b=1)&&fds.any fun d=>decide (Aa4 (sN d.Rhs) (sN d.Lhs) &&& b≠0)
def detL (fds:List api_FD):List Int->Nat->Nat
 | [],a=>a
 | b::l,a=>detL fds l (if detB fds (sN b)=true then a ||| sN b else a)
theorem Aye:∀ {l:List Int} {a i:Nat},(detL fds l a).testBit i=(a.testBit i || l.any fun b=>detB fds (sN b)&&(sN b).testBit i)
 | [],a,i=>by simp [detL]
 | b::l,a,i=>by
  simp only [detL];rw [Aye,List.any_cons];cases hp:detB fds (sN b)<;>simp [Nat.testBit_or,Bool.or_assoc]
theorem Bj2 (h:Mix n fds mvds) (hx:x<2^n):detL fds (blkL n fds mvds x) x=cloX n fds mvds x:=by
 apply Nat.eq_of_testBit_eq;intro i;unfold cloX;rw [Aye,Aju,Bool.eq_iff_iff,Bool.or_eq_true,Bool.and_eq_true,Bool.or_eq_true,decide_eq_true_eq,decide_eq_true_eq,List.any_eq_true];have h32:=h.p32;constructor
 ·rintro (hi | ⟨z,hz,hq⟩)
  ·exact ⟨Ace.1 hx i hi,.inl hi⟩
  ·obtain ⟨b,hb,rfl⟩:=h.blkL_mem.1 hz;rw [Aej,Bool.and_eq_true] at hq;obtain ⟨hp,hbi⟩:=hq;have hbn:=h.blk_lt hb;unfold detB at hp;rw [Bool.and_eq_true,decide_eq_true_eq,List.any_eq_true] at hp;obtain ⟨j,_,rfl⟩:=(Bbp (Nat.lt_of_lt_of_le hbn h32)).1 hp.1;rw [Acn,decide_eq_true_eq] at hbi;subst hbi;obtain ⟨d,hd,hne⟩:=hp.2;rw [decide_eq_true_eq] at hne;obtain ⟨q,h1,h2⟩:=Asg.1 hne;rw [Acn,decide_eq_true_eq] at h2;subst h2;rw [Aag,Bool.and_eq_true,Bool.not_eq_true'] at h1;exact ⟨Ace.1 hbn j (by rw [Acn];simp),.inr ⟨hb,fN d,List.mem_map.2 ⟨d,hd,rfl⟩,h1⟩⟩
 ·rintro ⟨hi,hxi | ⟨hb,d,hd,h1,h2⟩⟩
  ·exact .inl hxi
  ·obtain ⟨f,hf,rfl⟩:=List.mem_map.1 hd;refine .inr ⟨((2^i:Nat):Int),h.blkL_mem.2 ⟨_,hb,rfl⟩,?_⟩;rw [Aej,Bool.and_eq_true];refine ⟨?_,by rw [Acn];simp⟩;unfold detB;rw [Bool.and_eq_true,decide_eq_true_eq,List.any_eq_true];refine ⟨(Bbp (Nat.lt_of_lt_of_le (h.blk_lt hb) h32)).2 ⟨i,by have:=h.n6;omega,rfl⟩,f,hf,?_⟩;rw [decide_eq_true_eq];exact Asg.2 ⟨i,by rw [Aag];unfold fN at h1 h2;simp only at h1 h2;rw [h1,h2];rfl,by rw [Acn];simp⟩
theorem Bag (h:Mix n fds mvds) {b:Nat} (hb:b<2^32):q8_.C fds (b:Int) (fds.any fun d=>decide (Aa4 (sN d.Rhs) (sN d.Lhs) &&& b≠0)):=by
 have hlen:=h.f64;have hone:∀ d∈fds,q53_.C d (b:Int) (decide (Aa4 (sN d.Rhs) (sN d.Lhs) &&& b≠0)):=fun d hd=>by
  obtain ⟨r,h1,h2⟩:=q53_.enter d (b:Int) (fun r=>r=decide (Aa4 (sN d.Rhs) (sN d.Lhs) &&& b≠0)) (by
   have hd':=h.fok d hd;have e:Aaf .u32 d.Rhs d.Lhs=((Aa4 (sN d.Rhs) (sN d.Lhs):Nat):Int):=by
    conv=>lhs;rw [hd'.1.eq,hd'.2.eq]
    exact Ac6 hd'.2.top hd'.1.top
   rw [e,Adq (Abw (Nat.lt_of_le_of_lt Adt hd'.2.lt)) (Abw hb),Bool.eq_iff_iff,bne_iff_ne,decide_eq_true_eq]
   omega)
  rw [← h1];exact h2
 obtain ⟨r,h1,h2⟩:=q12_.enter fds (b:Int) (fun r=>decide (0<=r)=fds.any fun d=>decide (Aa4 (sN d.Rhs) (sN d.Lhs) &&& b≠0)) (by
  have go:∀ (l:List api_FD) (k:Nat),fds.drop k=l->(fds.any fun d=>decide (Aa4 (sN d.Rhs) (sN d.Lhs) &&& b≠0))=(l.any fun d=>decide (Aa4 (sN d.Rhs) (sN d.Lhs) &&& b≠0))->q12_.L1 fds (b:Int) (k:Int) (fun r=>decide (0<=r)=fds.any fun d=>decide (Aa4 (sN d.Rhs) (sN d.Lhs) &&& b≠0)):=by
   intro l
   induction l with
   | nil=>
    intro k hk he;have:=Aay hk;apply q12_.L1_step;rw [if_neg (by omega),he];rfl
   | cons d l ih=>
    intro k hk he;have hlt:=Aaz hk;apply q12_.L1_step;rw [if_pos (by omega)];refine ⟨d,Abi hk,_,hone d (List.mem_of_getElem? (Aaq hk)),?_⟩;rw [List.any_cons] at he;cases hq:decide (Aa4 (sN d.Rhs) (sN d.Lhs) &&& b≠0) with
    | true=>
     rw [if_pos rfl,he,hq,Bool.true_or,decide_eq_true_eq];omega
    | false=>
     rw [if_neg (by simp),Aa3 (by omega)];rw [hq,Bool.false_or] at he;exact ih (k+1) (Aa8 hk) he
  exact go fds 0 rfl rfl)
 obtain ⟨q,h3,h4⟩:=q8_.enter fds (b:Int) (fun q=>q=fds.any fun d=>decide (Aa4 (sN d.Rhs) (sN d.Lhs) &&& b≠0)) ⟨r,h2,h1⟩;rw [← h3];exact h4
theorem q69_.spec (h:Mix n fds mvds) (hv:Val n fds mvds) (hx:x<2^n):q69_.C n fds mvds x (((cloX n fds mvds x:Nat):Int),0):=by
 obtain ⟨r,h1,h2⟩:=q69_.enter n fds mvds x (fun r=>r=(((cloX n fds mvds x:Nat):Int),0)) ⟨_,q68_.ok h hv hx,by
  rw [if_pos rfl];refine ⟨_,q73_.spec h.fok h.f64 h.m64,_,q61_.ok h hx,?_⟩;rw [← Bj2 h hx];have hlen:=h.blkL_len (x:=x);have h32:=h.p32;have go:∀ (l:List Int) (k a:Nat),(blkL n fds mvds x).drop k=l->a<2^32->detL fds l a=detL fds (blkL n fds mvds x) x->q69_.L1 fds (a:Int) (blkL n fds mvds x) (k:Int) (fun r=>r=(((detL fds (blkL n fds mvds x) x:Nat):Int),0)):=by
   intro l
   induction l with
   | nil=>
    intro k a hk ha he;have:=Aay hk;apply q69_.L1_step;rw [if_neg (by omega),← he];rfl
   | cons z l ih=>
    intro k a hk ha he;have hlt:=Aaz hk;obtain ⟨b,hb,rfl⟩:=h.blkL_mem.1 (List.mem_of_getElem? (Aaq hk));have hb32:=Nat.lt_of_lt_of_le (h.blk_lt hb) h32;have next:∀ a:Nat,a<2^32->detL fds l a=detL fds (blkL n fds mvds x) x->q69_.L2 fds (a:Int) (blkL n fds mvds x) (k:Int) (fun r=>r=(((detL fds (blkL n fds mvds x) x:Nat):Int),0)):=fun a ha he=>by
     apply q69_.L2_step;rw [Aa3 (by omega)];exact ih (k+1) a (Aa8 hk) ha he
    simp only [detL,Aej] at he;apply q69_.L1_step;rw [if_pos (by omega)];have hs:=q59_.spec (U32.of hb32);rw [Aej] at hs;refine ⟨_,Abi hk,_,hs,?_⟩;by_cases h1:szN b=1
    ·rw [if_pos (by omega)];refine ⟨_,Bag h hb32,?_⟩;cases hq:(fds.any fun d=>decide (Aa4 (sN d.Rhs) (sN d.Lhs) &&& b≠0)) with
     | true=>
      rw [if_pos rfl,Aee (Abw ha) (Abw hb32)];rw [if_pos (by unfold detB;rw [hq,decide_eq_true h1];rfl)] at he;exact next _ (Nat.or_lt_two_pow ha hb32) he
     | false=>
      rw [if_neg (by simp)];rw [if_neg (by unfold detB;rw [hq];simp)] at he;exact next a ha he
    ·rw [if_neg (by omega)];rw [if_neg (by unfold detB;simp [h1])] at he;exact next a ha he
  exact go _ 0 x rfl (Nat.lt_of_lt_of_le hx h32) rfl⟩
 rw [← h1];exact h2
theorem q42_.spec (h:Mix n fds mvds) (hv:Val n fds mvds) {y:Nat} (hx:x<2^n) (hy:y<2^n):q42_.C n fds mvds ⟨x,y⟩ (decide (Aa4 y (cloX n fds mvds x)=0),0):=by
 obtain ⟨r,h1,h2⟩:=q42_.enter n fds mvds ⟨x,y⟩ (fun r=>r=(decide (Aa4 y (cloX n fds mvds x)=0),0)) ⟨_,q68_.ok2 h hv hx hy,by
  rw [if_pos rfl];refine ⟨_,q69_.spec h hv hx,?_⟩;show ((Aaf .u32 (y:Int) ((cloX n fds mvds x:Nat):Int) == 0),(0:Int))=_;rw [Ac6 (Abw (Nat.lt_of_lt_of_le hy h.p32)) (Abw (Nat.lt_of_lt_of_le Bb7 h.p32))];congr 1
  rw [Bool.eq_iff_iff,beq_iff_eq,decide_eq_true_eq];omega⟩
 rw [← h1];exact h2
end
theorem Bh2 {n:Nat} {L:List drossref09_Dep} (hn:n<=6) (hl:L.length<=6):fdsE (n:Int) (depL n L)=0:=by
 have:=Blv (Bgw (n:=n) (L:=L) hn hl);exact this.2.2
theorem q55_.exact {x:drossref13_Mixed} (hN:0<=x.D.N/\x.D.N<256) (hL:Amo x.D.L) (hM:Amo x.M) (h1:x.D.L.length<=4000000) (h2:x.M.length<=4000000):q55_.C x (((depN x.D.N:Nat):Int),depL (depN x.D.N) x.D.L,mvL (depL (depN x.D.N) x.M),decide (x.D.L.length<=6/\x.M.length<=4)):=by
 obtain ⟨r,e1,e2⟩:=q55_.enter x (fun r=>r=(((depN x.D.N:Nat):Int),depL (depN x.D.N) x.D.L,mvL (depL (depN x.D.N) x.M),decide (x.D.L.length<=6/\x.M.length<=4))) (by
  refine ⟨_,q52_.spec hN hL h1,_,q41_.spec (by have:=Aq1 (N:=x.D.N);omega) hM h2,?_⟩;by_cases h6:x.D.L.length<=6
  ·rw [if_pos (by show decide _=true;rw [decide_eq_true_eq];omega)];congr 3;rw [Bool.eq_iff_iff,decide_eq_true_eq,decide_eq_true_eq];omega
  ·rw [if_neg (by show ¬ decide _=true;rw [decide_eq_true_eq];omega)];congr 3
   rw [eq_comm,decide_eq_false_iff_not];omega)
 rw [← e1];exact e2
theorem Bmx {n:Nat} {L M:List drossref09_Dep} (hn:n<=6) (hl:L.length<=6) (hm:M.length<=4):Mix n (depL n L) (mvL (depL n M)) where
 n6:=hn
 fok:=Bb8 (by omega)
 mok:=Bmy (Bb8 (by omega))
 f64:=by rw [Ak5];omega
 m64:=by unfold mvL;rw [List.length_map,Ak5];omega
theorem Bn9 {n:Nat} {L M:List drossref09_Dep} (hn:n<=6) (hl:L.length<=6) (hm:M.length<=4):Val n (depL n L) (mvL (depL n M)):=by
 unfold Val basE;rw [if_pos (Bh2 hn hl),if_neg (by unfold mvL;rw [List.length_map,Ak5];omega),if_pos];rw [List.all_eq_true];intro d hd;obtain ⟨f,hf,rfl⟩:=List.mem_map.1 hd;obtain ⟨z,_,rfl⟩:=List.mem_map.1 hf;unfold inU;rw [Aej,Aej,Int.toNat_natCast,decide_eq_true Ah4,decide_eq_true Ah4];rfl
theorem q45_.spec {R:List Nat} {x:Nat} (hl:R.length<=1000000):q45_.C (x:Int) (lN R) (decide (x ∉ R),lN (if x∈R then R else R++[x])):=by
 obtain ⟨r,h1,h2⟩:=q45_.enter (x:Int) (lN R) (fun r=>r=(decide (x ∉ R),lN (if x∈R then R else R++[x]))) (by
  refine ⟨_,Azf (by rw [Ads];omega),?_⟩;by_cases h:x∈R
  ·rw [if_pos (by rw [decide_eq_true_eq];exact Bf7.2 h)];simp [h]
  ·rw [if_neg (by rw [decide_eq_true_eq];exact fun hh=>h (Bf7.1 hh))]
   exact ⟨by rw [Ads];omega,by simp [h,lN]⟩)
 rw [← h1];exact h2
def As9 (d:Nat×Nat) (R:List Nat) (D:Nat):Prop:=∀ i,D.testBit i=true↔d.2.testBit i=true/\∃ r s,r∈R/\s∈R/\Abh d.1 r s/\r.testBit i≠s.testBit i
section
variable {n x:Nat} {fds:List api_FD} {mvds:List api_MVD}
theorem As9.done {d:Nat×Nat} {R:List Nat} (h:As9 d R 0):As8 d R:=fun r s hr hs ha i hi=>by
 have:=h i;rw [Nat.zero_testBit] at this;cases hq:decide (r.testBit i=s.testBit i) with
 | true=>exact of_decide_eq_true hq
 | false=>exact absurd (this.2 ⟨hi,r,s,hr,hs,ha,of_decide_eq_false hq⟩) (by simp)
theorem Ado.gone {fds mvds:List (Nat×Nat)} {bs:List Nat} {rest live:Nat} (hp:BPart rest bs) (hf:BFin (Ais fds mvds) bs) {d:Nat×Nat} (hd:d∈fds) (hd32:d.2<2^32) {R A:List Nat} (h:Ado fds bs rest live R) {D:Nat} (hD:As9 d R D) (h0:D≠0) (hn:A.Nodup) (hA:∀ u,u∈A↔∃ q∈R,u=Aa4 q D):∃ live',live'<live/\Ado fds bs rest live' A:=by
 refine ⟨Aa4 live D,?_,hn,?_⟩
 ·refine Nat.lt_of_le_of_ne Adt fun he=>?_;obtain ⟨i,hi⟩:=Bff h0;obtain ⟨_,r,s,hr,hs,_,hne⟩:=(hD i).1 hi;have hl:live.testBit i=true:=by
   cases hq:r.testBit i with
   | true=>exact h.2.sub r hr i hq
   | false=>
    cases hq2:s.testBit i with
    | true=>exact h.2.sub s hs i hq2
    | false=>rw [hq,hq2] at hne;exact absurd rfl hne
  have:=congrArg (fun x=>x.testBit i) he;simp only [Aag,hi,hl] at this;cases this
 ·have:=h.2.fd hp hf hd hd32 fun i hi=>(hD i).1 hi;have e:(fun u=>u∈A)=fun u=>∃ q,q∈R/\u=Aa4 q D:=by funext u;rw [hA u]
  rw [e];exact this
namespace q62_
theorem puts {R:List Nat} {D:Nat} (hD:D<2^32) (hR:∀ r∈R,r<2^32) (hl:R.length<=1000) {i:Nat} {φ:List Int->Prop} (h:∀ A:List Nat,A.Nodup->(∀ u,u∈A↔∃ q∈R,u=Aa4 q D)->L9 fds mvds (lN A) true (i:Int) φ) :
  ∀ (r:List Nat) (k:Nat) (A:List Nat),R.drop k=r->A.length<=k->A.Nodup->(∀ u,u∈A↔∃ q∈R.take k,u=Aa4 q D)->L6 fds mvds (lN A) (D:Int) (lN R) (i:Int) (R.length:Int) (k:Int) φ:=by
 intro r
 induction r with
 | nil=>
  intro k A hd hk hn hm;have:=Aay hd;apply L6_step;rw [if_neg (by omega)];refine h A hn fun u=>?_;rw [hm u,List.take_of_length_le this]
 | cons a r ih=>
  intro k A hd hk hn hm;have hlt:=Aaz hd;have ha:=Aaq hd;have ha32:=hR a (List.mem_of_getElem? ha);apply L6_step;rw [if_pos (by omega)];refine ⟨_,Am8 ha,?_⟩;rw [Ac6 (Abw ha32) (Abw hD)];refine ⟨_,q45_.spec (by omega),?_⟩;rw [Aa3 (by omega)];refine ih (k+1) _ (Aa8 hd) ?_ ?_ ?_
  ·split
   ·omega
   ·rw [List.length_append,List.length_singleton];omega
  ·split
   ·exact hn
   ·rename_i hni;rw [List.nodup_append];exact ⟨hn,by simp,fun x hx y hy=>by simp only [List.mem_singleton] at hy;subst hy;rintro rfl;exact hni hx⟩
  ·intro u
   split
   ·rename_i hin;rw [hm u];constructor
    ·rintro ⟨q,h1,h2⟩;exact ⟨q,(Akt ha).2 (.inl h1),h2⟩
    ·rintro ⟨q,h1,rfl⟩;rcases (Akt ha).1 h1 with h1 | rfl
     ·exact ⟨q,h1,rfl⟩
     ·exact (hm _).1 hin
   ·rw [List.mem_append,hm u,List.mem_singleton];constructor
    ·rintro (⟨q,h1,h2⟩ | rfl)
     ·exact ⟨q,(Akt ha).2 (.inl h1),h2⟩
     ·exact ⟨a,(Akt ha).2 (.inr rfl),rfl⟩
    ·rintro ⟨q,h1,rfl⟩;rcases (Akt ha).1 h1 with h1 | rfl
     ·exact .inl ⟨q,h1,rfl⟩
     ·exact .inr rfl
def GoneTo (d:Nat×Nat) (R:List Nat) (i j:Nat) (D:Nat):Prop:=∀ b,D.testBit b=true↔d.2.testBit b=true/\∃ (p q r s:Nat),(p<i∨(p=i/\q<j))/\R[p]? = some r/\R[q]? = some s/\Abh d.1 r s/\r.testBit b≠s.testBit b
theorem gones {R:List Nat} {d:api_FD} (hd:U32 d.Lhs/\U32 d.Rhs) (hR:∀ r∈R,r<2^32) (hl:R.length<=1000) {ch:Bool} {f:Nat} {φ:List Int->Prop} (h:∀ D:Nat,D<2^32->As9 (fN d) R D->(if (D:Int)=0 then L9 fds mvds (lN R) ch (f:Int) φ else L6 fds mvds [] (D:Int) (lN R) (f:Int) (R.length:Int) 0 φ)) :
  ∀ (l:List Nat) (i D:Nat),R.drop i=l->D<2^32->GoneTo (fN d) R i 0 D->L3 fds mvds (lN R) ch d (D:Int) (f:Int) (R.length:Int) (i:Int) φ:=by
 intro l
 induction l with
 | nil=>
  intro i D hi hD hg;have hge:=Aay hi;apply L3_step;rw [if_neg (by omega)];have:=h D hD fun b=>by
   rw [hg b];refine and_congr_right fun _=>?_;constructor
   ·rintro ⟨p,q,r,s,_,h1,h2,h3,h4⟩;exact ⟨r,s,List.mem_of_getElem? h1,List.mem_of_getElem? h2,h3,h4⟩
   ·rintro ⟨r,s,h1,h2,h3,h4⟩;obtain ⟨p,hp⟩:=List.getElem?_of_mem h1;obtain ⟨q,hq⟩:=List.getElem?_of_mem h2;exact ⟨p,q,r,s,.inl (by have:=(List.getElem?_eq_some_iff.1 hp).1;omega),hp,hq,h3,h4⟩
  rw [Ads];exact this
 | cons a l ih=>
  intro i D hi hD hg;have hlt:=Aaz hi;have ha:=Aaq hi;have ham:=List.mem_of_getElem? ha;apply L3_step;rw [if_pos (by omega)];refine ⟨_,Am8 ha,?_⟩;have inner:∀ (l2:List Nat) (k D:Nat),R.drop k=l2->D<2^32->GoneTo (fN d) R i k D->L5 fds mvds (lN R) ch d (D:Int) (a:Int) (f:Int) (R.length:Int) (i:Int) (R.length:Int) (k:Int) φ:=by
   intro l2
   induction l2 with
   | nil=>
    intro k D hk hD hg;have hge:=Aay hk;apply L5_step;rw [if_neg (by omega),Aa3 (by omega)];refine ih (i+1) D (Aa8 hi) hD fun b=>?_;rw [hg b];refine and_congr_right fun _=>?_;constructor
    ·rintro ⟨p,q,r,s,h0,h1⟩;exact ⟨p,q,r,s,.inl (by omega),h1⟩
    ·rintro ⟨p,q,r,s,h0,h1,h2,h3⟩;refine ⟨p,q,r,s,?_,h1,h2,h3⟩;have:=(List.getElem?_eq_some_iff.1 h2).1;omega
   | cons c l2 ih2=>
    intro k D hk hD hg;have hklt:=Aaz hk;have hc:=Aaq hk;have hcm:=List.mem_of_getElem? hc;apply L5_step;rw [if_pos (by omega)];refine ⟨_,Am8 hc,?_⟩;by_cases h0:Abh (sN d.Lhs) a c
    ·rw [if_pos ((Asf (hR a ham) (hR c hcm) hd.1).2 h0),Bg6 (hR a ham) (hR c hcm) hd.2];have hx:(a ^^^ c) &&& sN d.Rhs<2^32:=Nat.lt_of_le_of_lt Nat.and_le_right hd.2.lt;rw [Aee (Abw hD) (Abw hx)];apply L8_step;rw [Aa3 (by omega)];refine ih2 (k+1) _ (Aa8 hk) (Nat.or_lt_two_pow hD hx) fun b=>?_;rw [Nat.testBit_or,Bool.or_eq_true,hg b,Nat.testBit_and,Bool.and_eq_true,Nat.testBit_xor];constructor
     ·rintro (⟨h1,p,q,r,s,h2,h3⟩ | ⟨h1,h2⟩)
      ·exact ⟨h1,p,q,r,s,by omega,h3⟩
      ·refine ⟨h2,i,k,a,c,.inr ⟨rfl,by omega⟩,ha,hc,h0,fun he=>?_⟩;rw [he] at h1;simp at h1
     ·rintro ⟨h1,p,q,r,s,h2,h3,h4,h5,h6⟩;by_cases hpq:p=i/\q=k
      ·obtain ⟨rfl,rfl⟩:=hpq;rw [ha] at h3;cases h3;rw [hc] at h4;cases h4;refine .inr ⟨?_,h1⟩;cases hq:a.testBit b<;>cases hq2:c.testBit b<;>simp_all
      ·exact .inl ⟨h1,p,q,r,s,by omega,h3,h4,h5,h6⟩
    ·rw [if_neg fun hh=>h0 ((Asf (hR a ham) (hR c hcm) hd.1).1 hh)];apply L8_step;rw [Aa3 (by omega)];refine ih2 (k+1) D (Aa8 hk) hD fun b=>?_;rw [hg b];refine and_congr_right fun _=>?_;constructor
     ·rintro ⟨p,q,r,s,h2,h3⟩;exact ⟨p,q,r,s,by omega,h3⟩
     ·rintro ⟨p,q,r,s,h2,h3,h4,h5,h6⟩;by_cases hpq:p=i/\q=k
      ·obtain ⟨rfl,rfl⟩:=hpq;rw [ha] at h3;cases h3;rw [hc] at h4;cases h4;exact absurd h5 h0
      ·exact ⟨p,q,r,s,by omega,h3,h4,h5,h6⟩
  rw [Ads];refine inner R 0 D rfl hD fun b=>?_;rw [hg b]
theorem mvds1 {R0:List Nat} {m:api_MVD} (hd:U32 m.Lhs/\U32 m.Rhs) {I:List Nat->Prop} (hI:Grows (mN m) I) {j:Nat} {ch0:Bool} {φ:List Int->Prop} (hφ:∀ (ch:Bool) (A:List Nat),I A->R0.length<=A.length->(if ch=true then ch0=true∨R0.length<A.length else ch0=false/\A=R0/\Axk (mN m) R0)->L4 fds mvds (lN A) ch ((IntKind.wrap .i64 ((j:Int)+1))) φ) :
  ∀ (l:List Nat) (i:Nat) (R:List Nat) (ch:Bool),R0.drop i=l->I R->(∀ r∈R0,r∈R)->R0.length<=R.length->(if ch=true then ch0=true∨R0.length<R.length else ch0=false/\R=R0/\∀ p r s,p<i->R0[p]? = some r->s∈R0->Abh (mN m).1 r s->mixR (mN m) r s∈R0) ->
   L7 fds mvds (lN R) ch m (j:Int) (lN R0) (R0.length:Int) (i:Int) φ:=by
 intro l
 induction l with
 | nil=>
  intro i R ch hi hR hsub hlen hch;have hge:=Aay hi;apply L7_step;rw [if_neg (by omega)];refine hφ ch R hR hlen ?_;cases ch with
  | true=>simpa using hch
  | false=>
   simp only [Bool.false_eq_true,if_false] at hch ⊢;obtain ⟨h1,h2,h3⟩:=hch;refine ⟨h1,h2,fun r s hr hs=>?_⟩;obtain ⟨p,hp⟩:=List.getElem?_of_mem hr;exact h3 p r s (by have:=(List.getElem?_eq_some_iff.1 hp).1;omega) hp hs
 | cons a l ih=>
  intro i R1 ch1 hi hR1 hsub1 hlen1 hch1;have hlt:=Aaz hi;have ha:=Aaq hi;have ham:=List.mem_of_getElem? ha;have h64:=hI.len R1 hR1;apply L7_step;rw [if_pos (by omega)];refine ⟨_,Am8 ha,by rw [Ads];omega,?_⟩;have inner:∀ (l2:List Nat) (k:Nat) (R:List Nat) (ch:Bool),R1.drop k=l2->I R->(∀ r∈R1,r∈R)->R0.length<=R.length ->
    (if ch=true then ch0=true∨R0.length<R.length else ch1=false/\R=R1/\∀ q s,q<k->R1[q]? = some s->Abh (mN m).1 a s->mixR (mN m) a s∈R1) ->
    L10 fds mvds (lN R) ch m (a:Int) (j:Int) (lN R0) (R0.length:Int) (i:Int) (lN R1) (R1.length:Int) (k:Int) φ:=by
   intro l2
   induction l2 with
   | nil=>
    intro k R ch hk hR hsub hlen hch;have hge:=Aay hk;apply L10_step;rw [if_neg (by omega),Aa3 (by omega)];refine ih (i+1) R ch (Aa8 hi) hR (fun r hr=>hsub r (hsub1 r hr)) hlen ?_;cases ch with
    | true=>simpa using hch
    | false=>
     simp only [Bool.false_eq_true,if_false] at hch ⊢;obtain ⟨rfl,rfl,h3⟩:=hch;simp only [Bool.false_eq_true,if_false] at hch1;obtain ⟨c1,rfl,c3⟩:=hch1;refine ⟨c1,rfl,fun p r s hp hr hs=>?_⟩;by_cases hpi:p=i
     ·subst hpi;rw [ha] at hr;cases hr;obtain ⟨q,hq⟩:=List.getElem?_of_mem hs;exact h3 q s (by have:=(List.getElem?_eq_some_iff.1 hq).1;omega) hq
     ·exact c3 p r s (by omega) hr hs
   | cons c l2 ih2=>
    intro k R ch hk hR hsub hlen hch;have hklt:=Aaz hk;have hc:=Aaq hk;have hcm:=List.mem_of_getElem? hc;have hx32:=hI.lt R hR a (hsub a (hsub1 a ham));have hy32:=hI.lt R hR c (hsub c hcm);have hl64:=hI.len R hR;have stay:(Abh (mN m).1 a c->mixR (mN m) a c∈R)->L11 fds mvds (lN R) ch m (a:Int) (j:Int) (lN R0) (R0.length:Int) (i:Int) (lN R1) (R1.length:Int) (k:Int) φ:=fun hn=>by
     apply L11_step;rw [Aa3 (by omega)];refine ih2 (k+1) R ch (Aa8 hk) hR hsub hlen ?_;cases ch with
     | true=>simpa using hch
     | false=>
      simp only [Bool.false_eq_true,if_false] at hch ⊢;obtain ⟨h1,rfl,h3⟩:=hch;refine ⟨h1,rfl,fun q s hq hs=>?_⟩;by_cases hqk:q=k
      ·subst hqk;rw [hc] at hs;cases hs;exact hn
      ·exact h3 q s (by omega) hs
    apply L10_step;rw [if_pos (by omega)];refine ⟨_,Am8 hc,?_⟩;by_cases h0:Abh (sN m.Lhs) a c
    ·rw [if_pos ((Asf hx32 hy32 hd.1).2 h0),mixI hd.1 hd.2 hx32 hy32];refine ⟨_,q45_.spec (by omega),?_⟩;by_cases hin:mixR (sN m.Lhs,sN m.Rhs) a c∈R
     ·rw [if_neg (by simp [hin])];simp only [if_pos hin];exact stay fun _=>hin
     ·rw [if_pos (by simp [hin])];simp only [if_neg hin];have hR':=hI.add R a c hR (hsub a (hsub1 a ham)) (hsub c hcm) h0 hin;rw [show (mN m)=(sN m.Lhs,sN m.Rhs) from rfl] at hR';apply L11_step;rw [Aa3 (by omega)];have hlen':(R++[mixR (sN m.Lhs,sN m.Rhs) a c]).length=R.length+1:=by simp
      refine ih2 (k+1) _ true (Aa8 hk) hR' (fun r hr=>List.mem_append_left _ (hsub r hr)) (by omega) ?_;rw [if_pos rfl];exact .inr (by omega)
    ·rw [if_neg fun hh=>h0 ((Asf hx32 hy32 hd.1).1 hh)];exact stay fun hn=>absurd hn h0
  rw [Ads];refine inner R1 0 R1 ch1 rfl hR1 (fun r hr=>hr) hlen1 ?_;cases ch1 with
  | true=>simpa using hch1
  | false=>
   simp only [Bool.false_eq_true,if_false];exact ⟨trivial,trivial,fun q s hq=>absurd hq (Nat.not_lt_zero q)⟩
theorem loop (H:Mix n fds mvds) {φ:List Int->Prop} (hφ:∀ live R,Chased n fds mvds x live R->φ (lN R)) :
  ∀ (μ live:Nat) (R:List Nat),Ado (fds.map fN) (blk n fds mvds x) (Adx n x) live R->Ae4 live R<=μ->L1 fds mvds (lN R) true φ:=by
 have hp:=H.part (x:=x);have hf:=H.fin (x:=x);have hr6:=Auy (x:=x) H.n6;intro μ
 induction μ using Nat.strongRecOn with
 | _ μ ihμ=>
 intro live R hR hμ;have C4:∀ (l:List api_MVD) (j:Nat),mvds.drop j=l->∀ (live:Nat) (R:List Nat) (ch:Bool),Ado (fds.map fN) (blk n fds mvds x) (Adx n x) live R->Ae4 live R<=μ->(ch=true->Ae4 live R<μ) ->
   (ch=false->(∀ d∈fds,As8 (fN d) R)/\∀ (q:Nat) (m:api_MVD),q<j->mvds[q]? = some m->Axk (mN m) R)->L4 fds mvds (lN R) ch (j:Int) φ:=by
  intro l
  induction l with
  | nil=>
   intro j hj live R ch hR hμ hch hno;have:=Aay hj;apply L4_step;rw [if_neg (by omega)];cases ch with
   | true=>exact ihμ _ (hch rfl) live R hR (Nat.le_refl _)
   | false=>
    apply L1_step;rw [if_neg (by simp)];obtain ⟨h1,h2⟩:=hno rfl;refine hφ live R ⟨hR,Bef h1 fun m hm=>?_⟩;obtain ⟨q,hq⟩:=List.getElem?_of_mem hm;exact h2 q m (by have:=(List.getElem?_eq_some_iff.1 hq).1;omega) hq
  | cons m l ih=>
   intro j hj live R ch hR hμ hch hno;have hlt:=Aaz hj;have hm:=Aaq hj;have hmm:=List.mem_of_getElem? hm;have h64:=H.m64;have hRl:=hR.len hr6;apply L4_step;rw [if_pos (by omega)];refine ⟨m,Abi hj,by rw [Ads];omega,?_⟩;have hg:=Ado.grows (live:=live) hp hf hr6 (m:=mN m) (List.mem_map.2 ⟨m,hmm,rfl⟩);rw [Ads];refine mvds1 (H.mok m hmm) hg (ch0:=ch) (fun ch' A hA hle hc=>?_) R 0 R ch rfl hR (fun r hr=>hr) (Nat.le_refl _) ?_
   ·rw [Aa3 (by omega)];have hAl:=hA.len hr6;have hle2:Ae4 live A<=Ae4 live R:=by unfold Ae4;omega
    cases ch' with
    | true=>
     rw [if_pos rfl] at hc;refine ih (j+1) (Aa8 hj) live A true hA (by omega) (fun _=>?_) (fun h=>by cases h);rcases hc with hc | hc
     ·have:=hch hc;omega
     ·have:Ae4 live A<Ae4 live R:=by unfold Ae4;omega
      omega
    | false=>
     simp only [Bool.false_eq_true,if_false] at hc;obtain ⟨c1,rfl,c3⟩:=hc;refine ih (j+1) (Aa8 hj) live A false hA hμ (fun h=>by cases h) fun _=>⟨(hno c1).1,fun q m' hq hm'=>?_⟩
     by_cases hqj:q=j
     ·subst hqj;rw [hm] at hm';cases hm';exact c3
     ·exact (hno c1).2 q m' (by omega) hm'
   ·cases ch with
    | true=>simp
    | false=>
     simp only [Bool.false_eq_true,if_false];exact ⟨trivial,trivial,fun p r s hp=>absurd hp (Nat.not_lt_zero p)⟩
 have C2:∀ (l:List api_FD) (i:Nat),fds.drop i=l->∀ (live:Nat) (R:List Nat) (ch:Bool),Ado (fds.map fN) (blk n fds mvds x) (Adx n x) live R->Ae4 live R<=μ->(ch=true->Ae4 live R<μ) ->
   (ch=false->∀ (q:Nat) (d:api_FD),q<i->fds[q]? = some d->As8 (fN d) R)->L2 fds mvds (lN R) ch (i:Int) φ:=by
  intro l
  induction l with
  | nil=>
   intro i hi live R ch hR hμ hch hno;have:=Aay hi;apply L2_step;rw [if_neg (by omega)];refine C4 mvds 0 rfl live R ch hR hμ hch fun h=>⟨fun d hd=>?_,fun q m hq=>absurd hq (Nat.not_lt_zero q)⟩
   obtain ⟨q,hq⟩:=List.getElem?_of_mem hd;exact hno h q d (by have:=(List.getElem?_eq_some_iff.1 hq).1;omega) hq
  | cons d l ih=>
   intro i hi live R ch hR hμ hch hno;have hlt:=Aaz hi;have hd:=Aaq hi;have hdm:=List.mem_of_getElem? hd;have h64:=H.f64;have hRl:=hR.len hr6;have hR32:∀ r∈R,r<2^32:=fun r hr=>Nat.lt_of_lt_of_le (hR.lt hr6 hr) (by decide);apply L2_step;rw [if_pos (by omega)];refine ⟨d,Abi hi,?_⟩;rw [Ads];refine gones (H.fok d hdm) hR32 (by omega) (fun D hD hg=>?_) R 0 0 rfl (by omega) fun b=>?_
   ·by_cases h0:D=0
    ·subst h0;rw [if_pos (show ((0:Nat):Int)=0 by omega)];apply L9_step;rw [Aa3 (by omega)];refine ih (i+1) (Aa8 hi) live R ch hR hμ hch fun h q d' hq hd'=>?_;by_cases hqi:q=i
     ·subst hqi;rw [hd] at hd';cases hd';exact hg.done
     ·exact hno h q d' (by omega) hd'
    ·rw [if_neg (by omega)];refine puts hD hR32 (by omega) (fun A a1 a2=>?_) R 0 [] rfl (Nat.le_refl 0) List.nodup_nil fun u=>by simp
     obtain ⟨live',hl',hA'⟩:=hR.gone hp hf (List.mem_map.2 ⟨d,hdm,rfl⟩) (H.fok d hdm).2.lt hg h0 a1 a2;have hAl:=hA'.len hr6;have hlt2:Ae4 live' A<Ae4 live R:=by
      unfold Ae4;have:(live'+1)*65<=live*65:=Nat.mul_le_mul_right _ hl';omega
     apply L9_step;rw [Aa3 (by omega)];exact ih (i+1) (Aa8 hi) live' A true hA' (by omega) (fun _=>by omega) (fun h=>by cases h)
   ·rw [Nat.zero_testBit];constructor
    ·intro h;cases h
    ·rintro ⟨_,p,q,r,s,h1,_⟩;omega
 apply L1_step;rw [if_pos rfl];exact C2 fds 0 rfl live R false hR hμ (fun h=>by cases h) (fun _ q d hq=>absurd hq (Nat.not_lt_zero q))
theorem spec (H:Mix n fds mvds) (hx:x<2^32):∃ live R,Chased n fds mvds x live R/\C n fds mvds x (lN R):=by
 have hn:=H.n6;obtain ⟨r,⟨live,R,h1,rfl⟩,h2⟩:=enter n fds mvds x (fun r=>∃ live R,Chased n fds mvds x live R/\r=lN R) (by
  refine ⟨by omega,?_⟩;rw [Arv (by omega),Ac6 (Abw (Bhz (by omega))) (Abw hx)];have:=q45_.spec (R:=[0]) (x:=Aa4 (2^n-1) x) (by decide);refine ⟨_,this,?_⟩;have hR0:Ado (fds.map fN) (blk n fds mvds x) (Adx n x) (Adx n x) (if Aa4 (2^n-1) x∈[0] then [0] else [0]++[Aa4 (2^n-1) x]):=by
   have hmem:∀ u,u∈(if Aa4 (2^n-1) x∈[0] then [0] else [0]++[Aa4 (2^n-1) x])↔u=0∨u=Adx n x:=by
    intro u;unfold Adx
    split
    ·rename_i h;simp only [List.mem_singleton] at h ⊢;rw [h];simp
    ·simp
   refine ⟨?_,?_⟩
   ·split
    ·simp
    ·rename_i h;simp only [List.mem_singleton] at h;simp [Ne.symm h]
   ·constructor
    ·exact (hmem _).2 (.inl rfl)
    ·exact (hmem _).2 (.inr rfl)
    ·intro r hr i hi;rcases (hmem r).1 hr with rfl | rfl
     ·rw [Nat.zero_testBit] at hi;cases hi
     ·exact hi
    ·exact fun i hi=>hi
    ·intro r hr b hb;rcases (hmem r).1 hr with rfl | rfl
     ·exact .inl fun i _ _=>Nat.zero_testBit i
     ·exact .inr fun i _ h=>h
    ·intro i h1 h2;rw [h1] at h2;cases h2
  exact loop H (fun live R h=>⟨live,R,h,rfl⟩) _ _ _ hR0 (Nat.le_refl _))
 exact ⟨live,R,h1,h2⟩
end q62_
end
section
variable {n x:Nat} {fds:List api_FD} {mvds:List api_MVD}
theorem Bb3 {n:Nat} (h:basE (n:Int) fds mvds=0):FdIn n fds/\∀ m∈mvds,inU n m.Lhs m.Rhs=true:=by
 unfold basE at h
 split at h
 ·rename_i h0;have h1:=Bj6 h0;rw [Int.toNat_natCast] at h1;refine ⟨h1,?_⟩
  split at h
  ·cases h
  ·split at h
   ·rename_i h2;rw [List.all_eq_true] at h2;intro m hm;have:=h2 m hm
    rwa [Int.toNat_natCast] at this
   ·cases h
 ·rename_i h0;exact absurd h h0
theorem Bhk {a b:Nat} (h:Mix n fds mvds) (hv:Val n fds mvds) (ha:a<2^n) (hb:b<2^n):limE (n:Int) fds mvds (a:Int) (b:Int)=0:=by
 have hn:=h.n6;unfold limE;have hv:basE (n:Int) fds mvds=0:=hv;rw [if_pos hv,if_neg (by omega),if_pos];unfold inU;rw [Aej,Aej,Int.toNat_natCast,decide_eq_true ha,decide_eq_true hb];rfl
theorem Chased.right (h:Mix n fds mvds) (hv:Val n fds mvds) {live:Nat} {R:List Nat} (hc:Chased n fds mvds x live R):(∀ d∈fds,SatP (bltT n R) (sN d.Lhs) (sN d.Rhs))/\∀ m∈mvds,inU (bltT n R).Attrs.length m.Lhs m.Rhs=true/\MvP (bltT n R) (sN m.Lhs) (sN m.Rhs):=by
 have hn:=h.n6;have hlen:=hc.len hn;obtain ⟨v1,v2⟩:=Bb3 hv;refine ⟨fun d hd=>?_,fun m hm=>?_⟩
 ·rw [Ay6 (by omega) (by omega) (v1 d hd).1 (v1 d hd).2];exact fun u v hu hv' ha=>hc.done.fd (fN d) (List.mem_map.2 ⟨d,hd,rfl⟩) u v hu hv' ha
 ·have hin:=v2 m hm;refine ⟨by rw [Ak0 (by omega)];exact hin,?_⟩;unfold inU at hin;rw [Bool.and_eq_true,decide_eq_true_eq,decide_eq_true_eq] at hin;exact Biw (m:=mN m) (by omega) hin.1 hin.2 fun u v hu hv' ha=>hc.done.mv (mN m) (List.mem_map.2 ⟨m,hm,rfl⟩) u v hu hv' ha
theorem Chased.not_fd (h:Mix n fds mvds) {y live:Nat} {R:List Nat} (hx:x<2^n) (hy:y<2^n) (hc:Chased n fds mvds x live R) (hno:¬ Aa4 y (cloX n fds mvds x)=0):¬ SatP (bltT n R) x y:=by
 have hn:=h.n6;have hlen:=hc.len hn;rw [Ay6 (by omega) (by omega) hx hy];intro hs;refine hno (Ahw.2 fun i hi=>?_);have hag:Abh x live 0:=fun j hj=>by
  rw [Nat.zero_testBit];cases hq:live.testBit j with
  | false=>rfl
  | true=>
   have:=hc.rows.2.lsub j hq;unfold Adx at this;rw [Aag,hj] at this;simp at this
 have:=hs live 0 hc.rows.2.top hc.rows.2.zero hag i hi;rw [Nat.zero_testBit] at this;have hin:=Ace.1 hy i hi;rw [← hc.clo h hx,Aag,Nat.testBit_two_pow_sub_one,this,decide_eq_true hin];rfl
theorem q63_.spec (h:Mix n fds mvds) (hv:Val n fds mvds) {y:Nat} (hx:x<2^n) (hy:y<2^n):(Aa4 y (cloX n fds mvds x)=0/\q63_.C n fds mvds ⟨x,y⟩ (Bij,10))∨(¬ Aa4 y (cloX n fds mvds x)=0/\∃ live R,Chased n fds mvds x live R/\q63_.C n fds mvds ⟨x,y⟩ (bltT n R,0)):=by
 have hn:=h.n6;have h32:=h.p32;obtain ⟨live,R,hc,hC⟩:=q62_.spec (x:=x) h (Nat.lt_of_lt_of_le hx h32);have hlen:=hc.len hn;have hlim:=q54_.spec (n:=(n:Int)) h.fok h.mok (a:=(x:Int)) (b:=(y:Int)) (U32.of (Nat.lt_of_lt_of_le hx h32)) (U32.of (Nat.lt_of_lt_of_le hy h32));rw [Bhk h hv hx hy] at hlim;obtain ⟨r,h1,h2⟩:=q63_.enter n fds mvds ⟨x,y⟩ (fun r=>r=if Aa4 y (cloX n fds mvds x)=0 then (Bij,10) else (bltT n R,0)) (by
  refine ⟨_,hlim,?_⟩;rw [if_pos rfl];refine ⟨_,q42_.spec h hv hx hy,?_⟩;by_cases h0:Aa4 y (cloX n fds mvds x)=0
  ·rw [if_pos (decide_eq_true h0),if_pos h0];rfl
  ·rw [if_neg (by simpa using h0),if_neg h0]
   exact ⟨_,hC,_,q60_.all (by omega) (fun r hr=>Nat.lt_of_lt_of_le (hc.lt hn hr) h32) (by omega),rfl⟩)
 by_cases h0:Aa4 y (cloX n fds mvds x)=0
 ·rw [if_pos h0] at h1;rw [h1] at h2;exact .inl ⟨h0,h2⟩
 ·rw [if_neg h0] at h1;rw [h1] at h2;exact .inr ⟨h0,live,R,hc,h2⟩
end
section
variable {n x:Nat} {fds:List api_FD} {mvds:List api_MVD}
theorem Ay5 {R:List Nat}:TNum (bltT n R):=by
 intro r hr v hv;obtain ⟨i,hi⟩:=List.getElem?_of_mem hr;have hi:(bltR n R 0)[i]? = some r:=hi;rw [Amv] at hi;obtain ⟨u,_,rfl⟩:=Option.map_eq_some_iff.1 hi;have hv:v∈rowV n u:=hv;obtain ⟨a,_,rfl⟩:=List.mem_map.1 hv;unfold Ajk bitV;cases u.testBit a<;>exact ⟨by decide,by decide⟩
end
namespace drosstop_TopMixed
theorem again {φ:Bool->Prop} (h:φ true):L1 φ:=L1_step φ ⟨true,q32_.spec,h⟩
theorem clo_sub {n x:Nat} {fds:List api_FD} {mvds:List api_MVD} (h:Mix n fds mvds) (hv:Val n fds mvds) (hx:x<2^n) {live:Nat} {R:List Nat} (hc:Chased n fds mvds x live R):subN (cloN fds x) (cloX n fds mvds x):=by
 obtain ⟨v1,_⟩:=Bb3 hv;refine Bgu (fun i hi=>?_) (fun d hd hs i hi=>?_)
 ·unfold cloX;rw [Aju,hi,decide_eq_true (Ace.1 hx i hi)];rfl
 ·rw [← hc.clo h hx,Aag,Nat.testBit_two_pow_sub_one,decide_eq_true (Ace.1 (v1 d hd).2 i hi)];have hag:Abh (fN d).1 live 0:=fun j hj=>by
   have:=hs j hj;rw [← hc.clo h hx,Aag,Bool.and_eq_true,Bool.not_eq_true'] at this;rw [this.2,Nat.zero_testBit]
  have:=hc.done.fd (fN d) (List.mem_map.2 ⟨d,hd,rfl⟩) live 0 hc.rows.2.top hc.rows.2.zero hag i hi;rw [this,Nat.zero_testBit];rfl
theorem spec (x:drossref13_Mixed) (d:drossref09_Dep) (hN:0<=x.D.N/\x.D.N<256) (hL:Amo x.D.L) (hM:Amo x.M) (h1:x.D.L.length<=4000000) (h2:x.M.length<=4000000) (hd:(0<=d.L/\d.L<256)/\0<=d.R/\d.R<256):C x d true:=by
 obtain ⟨r,e1,e2⟩:=enter x d (fun r=>r=true) (by
  refine ⟨_,q55_.exact hN hL hM h1 h2,true,q32_.spec,?_⟩;rw [if_pos rfl];by_cases hok:x.D.L.length<=6/\x.M.length<=4
  ·rw [if_pos (decide_eq_true hok)];have hn:=Aq1 (N:=x.D.N);have H:=Bmx (n:=depN x.D.N) hn hok.1 hok.2;have V:=Bn9 (n:=depN x.D.N) hn hok.1 hok.2;generalize depN x.D.N=n at *;generalize hf:depL n x.D.L=fds at *;generalize hg:mvL (depL n x.M)=mvds at *;generalize decide (x.D.L.length<=6/\x.M.length<=4)=ok;by_cases h5:5<(n:Int)
   ·rw [if_pos h5];exact again rfl
   rw [if_neg h5];refine ⟨_,q40_.spec (by omega) (fun x hx=>by rw [List.mem_singleton.1 hx];exact hd) (by simp),(⟨((sN d.L &&& (2^n-1):Nat):Int),((sN d.R &&& (2^n-1):Nat):Int)⟩:api_FD),rfl,?_⟩;generalize hq:sN d.L &&& (2^n-1)=q;generalize hr:sN d.R &&& (2^n-1)=r;have hqn:q<2^n:=by rw [← hq];exact Ah4
   have hrn:r<2^n:=by rw [← hr];exact Ah4
   have h32:=H.p32;have q32:=Nat.lt_of_lt_of_le hqn h32;have r32:=Nat.lt_of_lt_of_le hrn h32;have c32:cloX n fds mvds q<2^32:=Nat.lt_of_lt_of_le Bb7 h32;obtain ⟨live0,R0,hc0,_⟩:=q62_.spec (x:=q) H q32;have hsub:=clo_sub H V hqn hc0;have s1:=q43_.spec (a:=r) (b:=cloX n fds mvds q) r32 c32;have hcl:=q50_.spec (l:=fds) H.fok (by have:=H.f64;omega) q32;have l32:cloN fds q<2^32:=Biz (fun d hd=>(H.fok d hd).2.lt) q32;have s2:=q43_.spec (a:=cloN fds q) (b:=cloX n fds mvds q) l32 c32;have e:decide (r &&& cloX n fds mvds q=r)=decide (Aa4 r (cloX n fds mvds q)=0):=by
    rw [Bool.eq_iff_iff,decide_eq_true_eq,decide_eq_true_eq,Ahw,Aqe]
   rw [e] at s1;have e2:decide (cloN fds q &&& cloX n fds mvds q=cloN fds q)=true:=by
    rw [decide_eq_true_eq,Aqe];exact hsub
   rw [e2] at s2;have b1:=q42_.spec H V hqn hrn;have b2:=q69_.spec H V hqn;rcases q63_.spec H V hqn hrn with ⟨h0,hC⟩ | ⟨h0,live,R,hc,hC⟩
   ·refine ⟨_,b1,_,b2,_,hC,?_⟩;rw [if_pos rfl,if_pos rfl];refine ⟨_,s1,?_⟩;rw [if_pos rfl];refine ⟨_,hcl,_,s2,?_⟩;rw [if_pos rfl,if_pos (decide_eq_true h0)];rfl
   ·refine ⟨_,b1,_,b2,_,hC,?_⟩;rw [if_pos rfl,if_pos rfl];refine ⟨_,s1,?_⟩;rw [if_pos rfl];refine ⟨_,hcl,_,s2,?_⟩;rw [if_pos rfl,if_neg (by simpa using h0)];have hlen:=hc.len (by omega);have hT:=Bb6 (n:=n) (R:=R) (by omega) (by omega);obtain ⟨r1,r2⟩:=hc.right H V;obtain ⟨p,p1,p2,p3⟩:=q39_.spec (t:=bltT n R) (fd:=⟨(q:Int),(r:Int)⟩) Ay5 rfl rfl q32 r32;have hE:Ahr (bltT n R) q r=0:=by
     unfold Ahr;rw [if_pos (Agd.2 hT),if_pos (by rw [Ak0 (by omega)];exact Nat.or_lt_two_pow hqn hrn)]
    have hp:p.1=false:=by
     cases hb:p.1 with
     | false=>rfl
     | true=>exact absurd (p3.1 hb).2 (hc.not_fd H hqn hrn h0)
    have hs:Atv (bltT n R) fds mvds=(true,0):=by
     have hb:basE ((bltT n R).Attrs.length:Int) fds mvds=0:=by rw [Ak0 (by omega)];exact V
     unfold Atv;rw [if_pos (Agd.2 hT),if_pos hb,Aoj.2 ⟨r1,fun m hm=>(r2 m hm).2⟩]
    refine ⟨p,p1,_,q31_.spec Ay5 H.fok H.mok,?_⟩;rw [if_pos rfl,p2,hE,if_pos rfl,hs,if_pos rfl,hp,if_neg Bool.false_ne_true]
  ·rw [if_neg (by rw [decide_eq_true_eq];exact hok)]
   exact again rfl)
 subst e1;exact e2
theorem law {xs:List D} (hx:Ams env.P Ao8 Ao9 xs) (hw:wtL xs<=1048576):Ret env Ao7 xs (.lit (.bool true)) []:=by
 obtain ⟨x0,x1,h0,h1,e⟩:=Alp (P:=env.P) tf hx;rw [e] at hw ⊢;have hlen:x0.D.L.length<=4000000/\x0.M.length<=4000000:=by
  have h1:=As7 (x0.D.L.map Aa6);have h2:=As7 (x0.M.map Aa6);rw [List.length_map] at h1 h2;simp only [Aey,wtL,wt] at hw;omega
 exact spec x0 x1 (Anq h0.1.1) (fun x hx=>⟨Anq (h0.1.2.2 x hx).1,Anq (h0.1.2.2 x hx).2⟩) (fun x hx=>⟨Anq (h0.2.2 x hx).1,Anq (h0.2.2 x hx).2⟩) hlen.1 hlen.2 ⟨Anq h1.1,Anq h1.2⟩
end drosstop_TopMixed
end Go.Own
