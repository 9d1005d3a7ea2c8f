/- What the functions answer. No conditions. -/
import Derived.Test.YtmiedlcblpiemaaDoorBasisSoundLaw15
import Derived.Test.YtmiedlcblpiemaaDoorBasisSoundLaw7
set_option linter.all false
namespace Go.Own
def depL (n:Nat) (L:List drossref09_Dep):List api_FD:=L.map fun x=>{ Lhs:=((sN x.L &&& (2^n-1):Nat):Int),Rhs:=((sN x.R &&& (2^n-1):Nat):Int) }
def Aus (L:List drossref09_Dep):Prop:=∀ x∈L,(0<=x.L/\x.L<256)/\0<=x.R/\x.R<256
theorem Ay5 {x:Int} (h:0<=x/\x<256) {n:Nat} (hn:n<=16):bAnd .u32 (IntKind.wrap .u32 x) ((2^n-1:Nat):Int)=((sN x &&& (2^n-1):Nat):Int):=by
 have hp:=Arp hn;have e:x=((sN x:Nat):Int):=by unfold sN;omega
 have e2:IntKind.wrap .u32 x=((sN x:Nat):Int):=by
  conv=>lhs;rw [e]
  exact Ae3 (k:=.u32) (by simp only [top];unfold sN;omega)
 rw [e2];exact Ady (k:=.u32) (by simp only [top];unfold sN;omega) (by simp only [top];omega)
theorem Aj0 {x n:Nat}:x &&& (2^n-1)<2^n:=by
 have:=Nat.and_le_right (n:=x) (m:=2^n-1);have:0<2^n:=Nat.pow_pos (by omega);omega
theorem q54_.spec {n:Nat} {L:List drossref09_Dep} (hn:n<=16) (hL:Aus L) (hlen:L.length<=4000000):q54_.C n L (depL n L):=by
 obtain ⟨r,h1,h2⟩:=q54_.enter n L (fun r=>r=depL n L) (by
  refine ⟨_,Bb2 hn,?_⟩;have:∀ (r:List drossref09_Dep) (k:Nat),L.drop k=r->k<=L.length->q54_.L1 L ((2^n-1:Nat):Int) (depL n (L.take k)) k (fun r=>r=depL n L):=by
   intro r
   induction r with
   | nil=>
    intro k hd hk;have:=Ach hd;apply q54_.L1_step;rw [if_neg (by omega),List.take_of_length_le (by omega)]
   | cons x r ih=>
    intro k hd hk;have hlt:=Aci hd;have hx:=hL x (List.mem_of_getElem? (Aba hd));have next:=ih (k+1) (Abq hd) (by omega);rw [List.take_add_one,Aba hd,Option.toList_some] at next;unfold depL at next;rw [List.map_append,List.map_cons,List.map_nil] at next;apply q54_.L1_step;rw [if_pos (by omega)];refine ⟨x,Afk hd,?_⟩;rw [Ay5 hx.1 hn,Ay5 hx.2 hn,Aa9 (by omega)];exact ⟨by unfold depL;rw [List.length_map,List.length_take];omega,next⟩
  exact this L 0 rfl (Nat.zero_le _))
 rw [← h1];exact h2
theorem Ay4 {n:Nat} {L:List drossref09_Dep} (hn:n<=16):FdOK (depL n L):=fun d hd=>by
 obtain ⟨x,_,rfl⟩:=List.mem_map.1 hd;have hp:=Arp hn;exact ⟨U32.of (Nat.lt_of_lt_of_le Aj0 (by omega)),U32.of (Nat.lt_of_lt_of_le Aj0 (by omega))⟩
theorem Apt {n:Nat} {L:List drossref09_Dep}:(depL n L).length=L.length:=by simp [depL]
structure Mix (n:Nat) (fds:List api_FD) (mvds:List api_MVD):Prop where
 n6:n<=6
 fok:FdOK fds
 mok:Agf mvds
 f64:fds.length<=64
 m64:mvds.length<=64
def Ag1 (n x:Nat):Nat:=Aa6 (2^n-1) x
theorem Biu {n:Nat} (hn:n<=16):2^n-1<2^32:=Nat.lt_of_lt_of_le (Nat.sub_lt (Nat.pow_pos (by omega)) (by omega)) (Nat.pow_le_pow_right (by omega) (by omega))
theorem Aq5 {n x:Nat} (hn:n<=16):Ag1 n x<2^n:=Nat.lt_of_le_of_lt Ae0 (Nat.sub_lt (Nat.pow_pos (by omega)) (by omega))
theorem Aws {n x:Nat} (hn:n<=16):Ag1 n x<2^32:=Nat.lt_of_lt_of_le (Aq5 hn) (Nat.pow_le_pow_right (by omega) (by omega))
theorem Bfp {n x:Nat} (hn:n<=6):Ag1 n x<2^6:=Nat.lt_of_lt_of_le (Aq5 (by omega)) (Nat.pow_le_pow_right (by omega) (by omega))
def blk (n:Nat) (fds:List api_FD) (mvds:List api_MVD) (x:Nat):List Nat:=finB (fds.map fN) (mvds.map mN) (Ag1 n x)
structure Chased (n:Nat) (fds:List api_FD) (mvds:List api_MVD) (x live:Nat) (R:List Nat):Prop where
 rows:Bfu (fds.map fN) (blk n fds mvds x) (Ag1 n x) live R
 done:Closed2 (fds.map fN) (mvds.map mN) fun u=>u∈R
section
variable {n x:Nat} {fds:List api_FD} {mvds:List api_MVD}
theorem Mix.part (h:Mix n fds mvds):BPart (Ag1 n x) (blk n fds mvds x):=(Avv (Aws (by have:=h.n6;omega))).1
def cloX (n:Nat) (fds:List api_FD) (mvds:List api_MVD) (x:Nat):Nat:=Agc (fun i=>x.testBit i || decide (2^i∈blk n fds mvds x/\∃ d∈fds.map fN,d.2.testBit i=true/\d.1.testBit i=false)) n
theorem Beh:cloX n fds mvds x<2^n:=Anr n
def folX (n:Nat) (fds:List api_FD) (mvds:List api_MVD) (x y:Nat):Bool:=(blk n fds mvds x).all fun b=>decide (b &&& y=0) || decide (Aa6 b y=0)
theorem Bcz {y:Nat}:folX n fds mvds x y=true↔∀ b∈blk n fds mvds x,b &&& y=0∨Aa6 b y=0:=by
 unfold folX;rw [List.all_eq_true];exact forall_congr' fun b=>forall_congr' fun _=>by rw [Bool.or_eq_true,decide_eq_true_eq,decide_eq_true_eq]
end
def errS (n:Int) (l:List api_FD) (m:List api_MVD) (a b:Int):Int:=if basE n l m=0 then (if inU n.toNat a b=true then 0 else 1) else basE n l m
theorem Bg0 {n:Int} {l:List api_FD} {m:List api_MVD} (h:basE n l m=0):0<=n/\n<=16:=by
 unfold basE at h
 split at h
 ·rename_i h0;exact Bax h0
 ·rename_i h0;exact absurd h h0
theorem or_self {a:Int} (ha:U32 a):bOr .u32 a a=a:=by
 have:=Al1 (k:=.u32) ha.top ha.top;rw [← ha.eq,Nat.or_self,← ha.eq] at this;exact this
theorem Bd2 {n:Nat} {a:Int}:inU n a 0=inU n a a:=by
 unfold inU;have:sN 0<2^n:=Nat.pow_pos (by omega);rw [decide_eq_true this,Bool.and_true,Bool.and_self]
theorem q75_.spec {n:Int} {l:List api_FD} {m:List api_MVD} {a b:Int} (hl:FdOK l) (hm:Agf m) (ha:U32 a) (hb:U32 b):q75_.C n l m (bOr .u32 a b) (errS n l m a b):=by
 obtain ⟨r,h1,h2⟩:=q75_.enter n l m (bOr .u32 a b) (fun r=>r=errS n l m a b) (by
  refine ⟨_,q73_.spec hl hm,?_⟩;unfold errS;by_cases h0:basE n l m=0
  ·rw [if_pos h0,if_pos h0];obtain ⟨q,rfl⟩:∃ q:Nat,n=q:=⟨n.toNat,by have:=Bg0 h0;omega⟩
   refine ⟨by omega,?_⟩;have e:=Az9 (n:=q) ha hb;rw [Int.toNat_natCast];by_cases h:inU q a b=true
   ·rw [if_pos (e.2 h),if_pos h]
   ·rw [if_neg (fun hh=>h (e.1 hh)),if_neg h]
  ·rw [if_neg h0,if_neg h0])
 rw [← h1];exact h2
theorem q75_.one {n:Int} {l:List api_FD} {m:List api_MVD} {a:Int} (hl:FdOK l) (hm:Agf m) (ha:U32 a):q75_.C n l m a (errS n l m a 0):=by
 have:=q75_.spec (n:=n) hl hm ha ha;rw [or_self ha] at this;have e:errS n l m a a=errS n l m a 0:=by unfold errS;rw [Bd2]
 rw [e] at this;exact this
def mvL (l:List api_FD):List api_MVD:=l.map fun d=>⟨d.Lhs,d.Rhs⟩
theorem Bi4 {l:List api_FD} (h:FdOK l):Agf (mvL l):=fun d hd=>by
 obtain ⟨x,hx,rfl⟩:=List.mem_map.1 hd;exact h x hx
theorem q55_.spec {n:Nat} {L:List drossref09_Dep} (hn:n<=16) (hL:Aus L) (hlen:L.length<=4000000):q55_.C n L (mvL (depL n L)):=by
 obtain ⟨r,h1,h2⟩:=q55_.enter n L (fun r=>r=mvL (depL n L)) (by
  refine ⟨_,q54_.spec hn hL hlen,?_⟩;have hdl:(depL n L).length<=4000000:=by rw [Apt];exact hlen
  generalize depL n L=x at *;have go:∀ (r:List api_FD) (k:Nat) (out:List api_MVD),x.drop k=r->out.length<=k->out++mvL r=mvL x->q55_.L1 out x (k:Int) (fun r=>r=mvL x):=by
   intro r
   induction r with
   | nil=>
    intro k out hd hk h;have:=Ach hd;apply q55_.L1_step;rw [if_neg (by omega)];simpa [mvL] using h
   | cons a r ih=>
    intro k out hd hk h;have hlt:=Aci hd;apply q55_.L1_step;rw [if_pos (by omega)];refine ⟨a,Afk hd,by omega,?_⟩;rw [Aa9 (by omega)];exact ih (k+1) _ (Abq hd) (by rw [List.length_append];simp only [List.length_cons,List.length_nil];omega) (by rw [List.append_assoc];exact h)
  exact go x 0 [] rfl (Nat.le_refl 0) rfl)
 rw [← h1];exact h2
section
variable {n x:Nat} {fds:List api_FD} {mvds:List api_MVD}
def blkL (n:Nat) (fds:List api_FD) (mvds:List api_MVD) (x:Nat):List Int:=ordL (lN (blk n fds mvds x))
theorem Mix.blk_lt (h:Mix n fds mvds) {b:Nat} (hb:b∈blk n fds mvds x):b<2^n:=(h.part (x:=x)).lt (Aq5 (by have:=h.n6;omega)) hb
theorem Mix.p32 (h:Mix n fds mvds):2^n<=2^32:=Nat.pow_le_pow_right (by omega) (by have:=h.n6;omega)
theorem Mix.allU (h:Mix n fds mvds):AllU (lN (blk n fds mvds x)):=fun y hy=>by
 obtain ⟨b,hb,rfl⟩:=List.mem_map.1 hy;exact U32.of (Nat.lt_of_lt_of_le (h.blk_lt hb) h.p32)
theorem Mix.blkL_mem (h:Mix n fds mvds) {y:Int}:y∈blkL n fds mvds x↔∃ b∈blk n fds mvds x,y=(b:Int):=by
 unfold blkL;rw [Awm h.allU];unfold lN;rw [List.mem_map];exact ⟨fun ⟨b,h1,h2⟩=>⟨b,h1,h2.symm⟩,fun ⟨b,h1,h2⟩=>⟨b,h1,h2.symm⟩⟩
theorem Mix.blkL_len (h:Mix n fds mvds):(blkL n fds mvds x).length<=6:=by
 have h1:=Bdl (l:=lN (blk n fds mvds x));have h2:=(h.part (x:=x)).len (Bfp h.n6);rw [Arb] at h1;unfold blkL;omega
def Val (n:Nat) (fds:List api_FD) (mvds:List api_MVD):Prop:=basE (n:Int) fds mvds=0
theorem Ato {a b:Nat} (hv:Val n fds mvds) (ha:a<2^n) (hb:b<2^n):errS (n:Int) fds mvds (a:Int) (b:Int)=0:=by
 unfold errS;have hv:basE (n:Int) fds mvds=0:=hv;rw [if_pos hv,if_pos];unfold inU;rw [Acw,Acw,Int.toNat_natCast,decide_eq_true ha,decide_eq_true hb];rfl
theorem q75_.ok (h:Mix n fds mvds) (hv:Val n fds mvds) (hx:x<2^n):q75_.C n fds mvds x 0:=by
 have:=q75_.one (n:=(n:Int)) h.fok h.mok (a:=(x:Int)) (U32.of (Nat.lt_of_lt_of_le hx h.p32));have e:errS (n:Int) fds mvds (x:Int) 0=0:=Ato (b:=0) hv hx (Nat.pow_pos (by omega));rw [e] at this;exact this
theorem q75_.ok2 (h:Mix n fds mvds) (hv:Val n fds mvds) {y:Nat} (hx:x<2^n) (hy:y<2^n):q75_.C n fds mvds (bOr .u32 (x:Int) (y:Int)) 0:=by
 have:=q75_.spec (n:=(n:Int)) h.fok h.mok (a:=(x:Int)) (b:=(y:Int)) (U32.of (Nat.lt_of_lt_of_le hx h.p32)) (U32.of (Nat.lt_of_lt_of_le hy h.p32));rw [Ato hv hx hy] at this;exact this
theorem q70_.ok (h:Mix n fds mvds) (hx:x<2^n):q70_.C n (allI fds mvds) x (blkL n fds mvds x):=
 q70_.all (by have:=h.n6;omega) (Nat.lt_of_lt_of_le hx h.p32) h.fok h.mok h.f64 h.m64
theorem Bek (h:Mix n fds mvds) {y:Nat}:(blkL n fds mvds x).all (fun b=>decide (sN b &&& y=0) || decide (Aa6 (sN b) y=0))=folX n fds mvds x y:=by
 unfold folX;rw [Bool.eq_iff_iff,List.all_eq_true,List.all_eq_true];constructor
 ·intro hh b hb;have:=hh (b:Int) (h.blkL_mem.2 ⟨b,hb,rfl⟩)
  rwa [Acw] at this
 ·intro hh z hz;obtain ⟨b,hb,rfl⟩:=h.blkL_mem.1 hz;rw [Acw];exact hh b hb
theorem q42_.spec (h:Mix n fds mvds) (hv:Val n fds mvds) {y:Nat} (hx:x<2^n) (hy:y<2^n):q42_.C n fds mvds ⟨x,y⟩ (folX n fds mvds x y,0):=by
 obtain ⟨r,h1,h2⟩:=q42_.enter n fds mvds ⟨x,y⟩ (fun r=>r=(folX n fds mvds x y,0)) ⟨_,q75_.ok2 h hv hx hy,by
  rw [if_pos rfl];refine ⟨_,q80_.spec h.fok h.f64 h.m64,_,q70_.ok h hx,?_⟩;have hlen:=h.blkL_len (x:=x);rw [← Bek h];generalize hφ:(fun r:Bool×Int=>r=((blkL n fds mvds x).all (fun b=>decide (sN b &&& y=0) || decide (Aa6 (sN b) y=0)),(0:Int)))=φ;have hφ0:φ ((blkL n fds mvds x).all (fun b=>decide (sN b &&& y=0) || decide (Aa6 (sN b) y=0)),0):=by rw [← hφ]
  clear hφ;refine Aj5 (l:=blkL n fds mvds x) (p:=fun b=>decide (sN b &&& y=0) || decide (Aa6 (sN b) y=0)) (L:=fun i=>q42_.L1 ⟨x,y⟩ (blkL n fds mvds x) i φ) (φ:=fun b=>φ (b,(0:Int))) ?_ ?_ hφ0
  ·intro hh;apply q42_.L1_step;rw [if_neg (by omega)];exact hh
  ·intro k a ha hk hh;obtain ⟨b,hb,rfl⟩:=h.blkL_mem.1 (List.mem_of_getElem? ha);have hb32:=Nat.lt_of_lt_of_le (h.blk_lt hb) h.p32;have hy32:=Nat.lt_of_lt_of_le hy h.p32;rw [Acw] at hh;apply q42_.L1_step;rw [if_pos (by omega)];refine ⟨_,Abb ha,?_⟩;have next:q42_.L1 ⟨x,y⟩ (blkL n fds mvds x) ((k+1:Nat):Int) φ->q42_.L2 ⟨x,y⟩ (blkL n fds mvds x) (k:Int) φ:=fun q=>by
    apply q42_.L2_step;rw [Aa9 (by omega)];exact q
   show (if bAnd .u32 (b:Int) (y:Int)=0 then _ else _);rw [Ady (Adw hb32) (Adw hy32)];by_cases h1:b &&& y=0
   ·rw [if_pos (by omega)];rw [if_pos (by simp [h1])] at hh;exact next hh
   ·rw [if_neg (by omega)];show (if Aag .u32 (b:Int) (y:Int)=0 then _ else _);rw [Acl (Adw hb32) (Adw hy32)];by_cases h2:Aa6 b y=0
    ·rw [if_pos (by omega)];rw [if_pos (by simp [h2])] at hh;exact next hh
    ·rw [if_neg (by omega)];rw [if_neg (by simp [h1,h2])] at hh
     exact hh⟩
 rw [← h1];exact h2
theorem Ayh {b:Nat} (hb:b<2^32):szN b=1↔∃ j,j<32/\b=2^j:=by
 unfold szN;constructor
 ·intro h;obtain ⟨j,hj⟩:=List.length_eq_one_iff.1 h;have hjb:=(Abi hb).1 (by rw [hj];simp:j∈Aar b);refine ⟨j,Adr.1 hb j hjb,?_⟩;apply Nat.eq_of_testBit_eq;intro i;rw [Aey,Bool.eq_iff_iff,decide_eq_true_eq,← Abi hb,hj,List.mem_singleton];exact eq_comm
 ·rintro ⟨j,hj,rfl⟩;have hm:∀ i,i∈Aar (2^j)↔j=i:=fun i=>by rw [Abi hb,Aey,decide_eq_true_eq]
  have hs:=Aes (n:=2^j)
  match hq:Aar (2^j),hm,hs with
  | [],hm,_=>exact absurd ((hm j).2 rfl) (by simp)
  | [a],_,_=>rfl
  | a::b::l,hm,hs=>
   have h1:=(hm a).1 (by simp);have h2:=(hm b).1 (by simp);have:=(List.pairwise_cons.1 hs).1 b (by simp);omega
def detB (fds:List api_FD) (b:Nat):Bool:=decide (szN b=1)&&fds.any fun d=>decide (Aa6 (sN d.Rhs) (sN d.Lhs) &&& b≠0)
def detL (fds:List api_FD):List Int->Nat->Nat
 | [],a=>a
 | b::l,a=>detL fds l (if detB fds (sN b)=true then a ||| sN b else a)
theorem Avp:∀ {l:List Int} {a i:Nat},(detL fds l a).testBit i=(a.testBit i || l.any fun b=>detB fds (sN b)&&(sN b).testBit i)
 | [],a,i=>by simp [detL]
 | b::l,a,i=>by
  simp only [detL];rw [Avp,List.any_cons];cases hp:detB fds (sN b)<;>simp [Nat.testBit_or,Bool.or_assoc]
theorem Bej (h:Mix n fds mvds) (hx:x<2^n):detL fds (blkL n fds mvds x) x=cloX n fds mvds x:=by
 apply Nat.eq_of_testBit_eq;intro i;unfold cloX;rw [Avp,Ama,Bool.eq_iff_iff,Bool.or_eq_true,Bool.and_eq_true,Bool.or_eq_true,decide_eq_true_eq,decide_eq_true_eq,List.any_eq_true];have h32:=h.p32;constructor
 ·rintro (hi | ⟨z,hz,hq⟩)
  ·exact ⟨Adr.1 hx i hi,.inl hi⟩
  ·obtain ⟨b,hb,rfl⟩:=h.blkL_mem.1 hz;rw [Acw,Bool.and_eq_true] at hq;obtain ⟨hp,hbi⟩:=hq;have hbn:=h.blk_lt hb;unfold detB at hp;rw [Bool.and_eq_true,decide_eq_true_eq,List.any_eq_true] at hp;obtain ⟨j,_,rfl⟩:=(Ayh (Nat.lt_of_lt_of_le hbn h32)).1 hp.1;rw [Aey,decide_eq_true_eq] at hbi;subst hbi;obtain ⟨d,hd,hne⟩:=hp.2;rw [decide_eq_true_eq] at hne;obtain ⟨q,h1,h2⟩:=Bae.1 hne;rw [Aey,decide_eq_true_eq] at h2;subst h2;rw [Aaw,Bool.and_eq_true,Bool.not_eq_true'] at h1;exact ⟨Adr.1 hbn j (by rw [Aey];simp),.inr ⟨hb,fN d,List.mem_map.2 ⟨d,hd,rfl⟩,h1⟩⟩
 ·rintro ⟨hi,hxi | ⟨hb,d,hd,h1,h2⟩⟩
  ·exact .inl hxi
  ·obtain ⟨f,hf,rfl⟩:=List.mem_map.1 hd;refine .inr ⟨((2^i:Nat):Int),h.blkL_mem.2 ⟨_,hb,rfl⟩,?_⟩;rw [Acw,Bool.and_eq_true];refine ⟨?_,by rw [Aey];simp⟩;unfold detB;rw [Bool.and_eq_true,decide_eq_true_eq,List.any_eq_true];refine ⟨(Ayh (Nat.lt_of_lt_of_le (h.blk_lt hb) h32)).2 ⟨i,by have:=h.n6;omega,rfl⟩,f,hf,?_⟩;rw [decide_eq_true_eq];exact Bae.2 ⟨i,by rw [Aaw];unfold fN at h1 h2;simp only at h1 h2;rw [h1,h2];rfl,by rw [Aey];simp⟩
theorem Axf (h:Mix n fds mvds) {b:Nat} (hb:b<2^32):q10_.C fds (b:Int) (fds.any fun d=>decide (Aa6 (sN d.Rhs) (sN d.Lhs) &&& b≠0)):=by
 have hlen:=h.f64;have hone:∀ d∈fds,q64_.C d (b:Int) (decide (Aa6 (sN d.Rhs) (sN d.Lhs) &&& b≠0)):=fun d hd=>by
  obtain ⟨r,h1,h2⟩:=q64_.enter d (b:Int) (fun r=>r=decide (Aa6 (sN d.Rhs) (sN d.Lhs) &&& b≠0)) (by
   have hd':=h.fok d hd;have e:Aag .u32 d.Rhs d.Lhs=((Aa6 (sN d.Rhs) (sN d.Lhs):Nat):Int):=by
    conv=>lhs;rw [hd'.1.eq,hd'.2.eq]
    exact Acl hd'.2.top hd'.1.top
   rw [e,Ady (Adw (Nat.lt_of_le_of_lt Ae0 hd'.2.lt)) (Adw hb),Bool.eq_iff_iff,bne_iff_ne,decide_eq_true_eq]
   omega)
  rw [← h1];exact h2
 obtain ⟨r,h1,h2⟩:=q15_.enter fds (b:Int) (fun r=>decide (0<=r)=fds.any fun d=>decide (Aa6 (sN d.Rhs) (sN d.Lhs) &&& b≠0)) (by
  have go:∀ (l:List api_FD) (k:Nat),fds.drop k=l->(fds.any fun d=>decide (Aa6 (sN d.Rhs) (sN d.Lhs) &&& b≠0))=(l.any fun d=>decide (Aa6 (sN d.Rhs) (sN d.Lhs) &&& b≠0))->q15_.L1 fds (b:Int) (k:Int) (fun r=>decide (0<=r)=fds.any fun d=>decide (Aa6 (sN d.Rhs) (sN d.Lhs) &&& b≠0)):=by
   intro l
   induction l with
   | nil=>
    intro k hk he;have:=Ach hk;apply q15_.L1_step;rw [if_neg (by omega),he];rfl
   | cons d l ih=>
    intro k hk he;have hlt:=Aci hk;apply q15_.L1_step;rw [if_pos (by omega)];refine ⟨d,Afk hk,_,hone d (List.mem_of_getElem? (Aba hk)),?_⟩;rw [List.any_cons] at he;cases hq:decide (Aa6 (sN d.Rhs) (sN d.Lhs) &&& b≠0) with
    | true=>
     rw [if_pos rfl,he,hq,Bool.true_or,decide_eq_true_eq];omega
    | false=>
     rw [if_neg (by simp),Aa9 (by omega)];rw [hq,Bool.false_or] at he;exact ih (k+1) (Abq hk) he
  exact go fds 0 rfl rfl)
 obtain ⟨q,h3,h4⟩:=q10_.enter fds (b:Int) (fun q=>q=fds.any fun d=>decide (Aa6 (sN d.Rhs) (sN d.Lhs) &&& b≠0)) ⟨r,h2,h1⟩;rw [← h3];exact h4
theorem q76_.spec (h:Mix n fds mvds) (hv:Val n fds mvds) (hx:x<2^n):q76_.C n fds mvds x (((cloX n fds mvds x:Nat):Int),0):=by
 obtain ⟨r,h1,h2⟩:=q76_.enter n fds mvds x (fun r=>r=(((cloX n fds mvds x:Nat):Int),0)) ⟨_,q75_.ok h hv hx,by
  rw [if_pos rfl];refine ⟨_,q80_.spec h.fok h.f64 h.m64,_,q70_.ok h hx,?_⟩;rw [← Bej h hx];have hlen:=h.blkL_len (x:=x);have h32:=h.p32;have go:∀ (l:List Int) (k a:Nat),(blkL n fds mvds x).drop k=l->a<2^32->detL fds l a=detL fds (blkL n fds mvds x) x->q76_.L1 fds (a:Int) (blkL n fds mvds x) (k:Int) (fun r=>r=(((detL fds (blkL n fds mvds x) x:Nat):Int),0)):=by
   intro l
   induction l with
   | nil=>
    intro k a hk ha he;have:=Ach hk;apply q76_.L1_step;rw [if_neg (by omega),← he];rfl
   | cons z l ih=>
    intro k a hk ha he;have hlt:=Aci hk;obtain ⟨b,hb,rfl⟩:=h.blkL_mem.1 (List.mem_of_getElem? (Aba hk));have hb32:=Nat.lt_of_lt_of_le (h.blk_lt hb) h32;have next:∀ a:Nat,a<2^32->detL fds l a=detL fds (blkL n fds mvds x) x->q76_.L2 fds (a:Int) (blkL n fds mvds x) (k:Int) (fun r=>r=(((detL fds (blkL n fds mvds x) x:Nat):Int),0)):=fun a ha he=>by
     apply q76_.L2_step;rw [Aa9 (by omega)];exact ih (k+1) a (Abq hk) ha he
    simp only [detL,Acw] at he;apply q76_.L1_step;rw [if_pos (by omega)];have hs:=q69_.spec (U32.of hb32);rw [Acw] at hs;refine ⟨_,Afk hk,_,hs,?_⟩;by_cases h1:szN b=1
    ·rw [if_pos (by omega)];refine ⟨_,Axf h hb32,?_⟩;cases hq:(fds.any fun d=>decide (Aa6 (sN d.Rhs) (sN d.Lhs) &&& b≠0)) with
     | true=>
      rw [if_pos rfl,Al1 (Adw ha) (Adw hb32)];rw [if_pos (by unfold detB;rw [hq,decide_eq_true h1];rfl)] at he;exact next _ (Nat.or_lt_two_pow ha hb32) he
     | false=>
      rw [if_neg (by simp)];rw [if_neg (by unfold detB;rw [hq];simp)] at he;exact next a ha he
    ·rw [if_neg (by omega)];rw [if_neg (by unfold detB;simp [h1])] at he;exact next a ha he
  exact go _ 0 x rfl (Nat.lt_of_lt_of_le hx h32) rfl⟩
 rw [← h1];exact h2
theorem q56_.spec (h:Mix n fds mvds) (hv:Val n fds mvds) {y:Nat} (hx:x<2^n) (hy:y<2^n):q56_.C n fds mvds ⟨x,y⟩ (decide (Aa6 y (cloX n fds mvds x)=0),0):=by
 obtain ⟨r,h1,h2⟩:=q56_.enter n fds mvds ⟨x,y⟩ (fun r=>r=(decide (Aa6 y (cloX n fds mvds x)=0),0)) ⟨_,q75_.ok2 h hv hx hy,by
  rw [if_pos rfl];refine ⟨_,q76_.spec h hv hx,?_⟩;show ((Aag .u32 (y:Int) ((cloX n fds mvds x:Nat):Int) == 0),(0:Int))=_;rw [Acl (Adw (Nat.lt_of_lt_of_le hy h.p32)) (Adw (Nat.lt_of_lt_of_le Beh h.p32))];congr 1
  rw [Bool.eq_iff_iff,beq_iff_eq,decide_eq_true_eq];omega⟩
 rw [← h1];exact h2
end
namespace q65_
theorem inner {t:api_Table} {fd:api_FD} {l r:Nat} {φ:Bool->Prop} {i:Nat} (ht:TV t) (el:fd.Lhs=l) (er:fd.Rhs=r) (hl:l<2^32) (hr:r<2^32) (hi:i<t.Rows.length) (hf:¬ SatP t l r->φ false)
  (h:(∀ k,k<i->OkP t l r i k)->L1 t fd ((i+1:Nat):Int) φ):∀ k,k<=i->((∀ j,j<k->OkP t l r i j)->L2 t fd i k φ):=by
 have nr:=ht.nr;have na:=ht.na;refine down ?_ ?_
 ·intro hk;apply L2_step;rw [if_neg (by omega),Aa9 (by omega)];exact h hk
 ·intro k hk ih hj;apply L2_step;rw [if_pos (by omega)];have mi:=List.getElem_mem hi;have mk:=List.getElem_mem (l:=t.Rows) (n:=k) (by omega);have sv:∀ v∈(t.Rows[i]).Values,v.Str.toList.length<Big:=fun v hv=>by have:=Auh (ht.val mi v hv);unfold Big;omega
  have la:=ht.len mi;have lb:=ht.len mk;have next:OkP t l r i k->L3 t fd i k φ:=fun ho=>by
   apply L3_step;rw [Aa9 (by omega)];refine ih fun j hjk=>?_;by_cases hjj:j=k
   ·subst hjj;exact ho
   ·exact hj j (by omega)
  refine ⟨t.Rows[i],Abb (List.getElem?_eq_getElem hi),t.Rows[k],Abb (List.getElem?_eq_getElem (by omega)),_,by rw [el];exact q39_.spec hl (by omega) (by omega) sv,?_⟩
  split
  ·rename_i h1;refine ⟨_,by rw [er];exact q39_.spec hr (by omega) (by omega) sv,?_⟩
   split
   ·rename_i h2;exact next fun _=>(agr hi (by omega)).1 h2
   ·rename_i h2;refine hf fun hs=>h2 ?_;exact (agr hi (by omega)).2 (hs i k hi hk ((agr hi (by omega)).1 h1))
  ·rename_i h1;exact next fun hh=>absurd ((agr hi (by omega)).2 hh) h1
theorem spec {t:api_Table} {fd:api_FD} {l r:Nat} (ht:TV t) (el:fd.Lhs=l) (er:fd.Rhs=r) (hl:l<2^32) (hr:r<2^32):∃ b,C t fd b/\(b=true↔SatP t l r):=by
 obtain ⟨b,h1,h2⟩:=enter t fd (fun b=>(b=true↔SatP t l r)) (by
  have nr:=ht.nr;have hf:¬ SatP t l r->(false=true↔SatP t l r):=fun h=>by simp [h]
  have loop:∀ i,i<=t.Rows.length->((∀ a,a<i->∀ k,k<a->OkP t l r a k)->L1 t fd i fun b=>(b=true↔SatP t l r)):=by
   refine down ?_ ?_
   ·intro h;apply L1_step;rw [if_neg (by omega)];simp only [true_iff];exact fun i k hi hk=>h i hi k hk
   ·intro i hi ih hh;apply L1_step;rw [if_pos (by omega)];refine inner ht el er hl hr hi hf (fun hk=>ih fun a ha k hka=>?_) 0 (Nat.zero_le _) (fun j hj=>by omega);by_cases hai:a=i
    ·subst hai;exact hk k hka
    ·exact hh a (by omega) k hka
  exact loop 0 (Nat.zero_le _) (fun a ha=>by omega))
 exact ⟨b,h2,h1⟩
end q65_
section
variable {t:api_Table} {fds:List api_FD} {mvds:List api_MVD} {x:Nat}
theorem Bav {t:api_Table}:EqOK (fun i k a=>EqA t i k a):=⟨fun _ _=>rfl,fun h=>Eq.symm h,fun h k=>Eq.trans h k⟩
theorem Ayf {l r i k:Nat} (ht:TV t) (hl:l<2^32) (hr:r<2^32) (h:SatP t l r) (hi:i<t.Rows.length) (hk:k<t.Rows.length) (ha:∀ a,l.testBit a=true->EqA t i k a):∀ a,r.testBit a=true->EqA t i k a:=
 (Aho ht hr hi hk).1 (h.all hi hk ((Aho ht hl hi hk).2 ha))
theorem Bdr (ht:TV t) (hn:t.Attrs.length<=6) (hf:FdOK fds) (hv:∀ d∈fds,sN d.Lhs<2^t.Attrs.length/\sN d.Rhs<2^t.Attrs.length) (hw:∀ m∈mvds,inU t.Attrs.length m.Lhs m.Rhs=true) (h1:∀ d∈fds,SatP t (sN d.Lhs) (sN d.Rhs)) (h2:∀ m∈mvds,MvP t (sN m.Lhs) (sN m.Rhs)):∀ m∈Aqi (fds.map fN) (mvds.map mN),MvH (fun i=>i<t.Rows.length) (fun i k a=>EqA t i k a) t.Attrs.length m:=by
 intro m hm r s hr hs h;rcases List.mem_append.1 hm with hm | hm
 ·obtain ⟨d,hd,rfl⟩:=List.mem_map.1 hm;have hin:=hw d hd;unfold inU at hin;rw [Bool.and_eq_true,decide_eq_true_eq,decide_eq_true_eq] at hin;obtain ⟨j,hj,e1,e2⟩:=h2 d hd r s hr hs fun a ha=>h a (Adr.1 hin.1 a ha) ha;exact ⟨j,hj,fun i _ hi=>e1 i hi,fun i hi hb=>e2 i hi hb⟩
 ·obtain ⟨d,hd,hm⟩:=List.mem_flatMap.1 hm;obtain ⟨d0,hd0,rfl⟩:=List.mem_map.1 hd;obtain ⟨a,ha,rfl⟩:=List.mem_map.1 hm;have ha:=(Abi (hf d0 hd0).2.lt).1 ha;have hag:=Ayf ht (hf d0 hd0).1.lt (hf d0 hd0).2.lt (h1 d0 hd0) hr hs (fun i hi=>h i (Adr.1 (hv d0 hd0).1 i hi) hi);refine ⟨s,hs,fun i hi hq=>?_,fun i _ _=>rfl⟩;rw [Nat.testBit_or,Bool.or_eq_true] at hq;rcases hq with hq | hq
  ·exact Eq.symm (h i hi hq)
  ·have:(2^a).testBit i=true:=hq;rw [Aey,decide_eq_true_eq] at this;subst this;exact Eq.symm (hag a ha)
theorem As2 (ht:TV t) (hn:t.Attrs.length<=6) (hf:FdOK fds) (hv:∀ d∈fds,sN d.Lhs<2^t.Attrs.length/\sN d.Rhs<2^t.Attrs.length) (hw:∀ m∈mvds,inU t.Attrs.length m.Lhs m.Rhs=true) (h1:∀ d∈fds,SatP t (sN d.Lhs) (sN d.Rhs)) (h2:∀ m∈mvds,MvP t (sN m.Lhs) (sN m.Rhs)) :
  ∀ b∈blk t.Attrs.length fds mvds x,Exch (fun i=>i<t.Rows.length) (fun i k=>∀ a,a<t.Attrs.length->x.testBit a=true->EqA t i k a) (fun i k a=>EqA t i k a) t.Attrs.length b:=by
 have hrx:Ag1 t.Attrs.length x &&& x=0:=Acf.2 fun i hi=>by
  unfold Ag1 at hi;rw [Aaw,Bool.and_eq_true,Bool.not_eq_true'] at hi;exact hi.2
 refine Ap0 Bav (fun _ _=>Iff.rfl) hrx (Bdr ht hn hf hv hw h1 h2) Aiw ?_;intro b hb r s hr hs ha;have hb:b=Ag1 t.Attrs.length x:=by
  unfold Ajq at hb
  split at hb
  ·cases hb
  ·simpa using hb
 subst hb;refine ⟨r,hr,ha,fun _ _ _=>rfl,fun _ _ _=>rfl,fun i hi hb=>?_⟩;unfold Ag1 at hb;rw [Aaw,Nat.testBit_two_pow_sub_one,decide_eq_true hi] at hb;exact ha i hi (by simpa using hb)
theorem Bbw (ht:TV t) (hn:t.Attrs.length<=6) (hf:FdOK fds) (hv:∀ d∈fds,sN d.Lhs<2^t.Attrs.length/\sN d.Rhs<2^t.Attrs.length) (hw:∀ m∈mvds,inU t.Attrs.length m.Lhs m.Rhs=true) (h1:∀ d∈fds,SatP t (sN d.Lhs) (sN d.Rhs)) (h2:∀ m∈mvds,MvP t (sN m.Lhs) (sN m.Rhs)) (hx:x<2^t.Attrs.length) {y:Nat} (hy:y<2^t.Attrs.length) (h:folX t.Attrs.length fds mvds x y=true):MvP t x y:=by
 have hp:BPart (Ag1 t.Attrs.length x) (blk t.Attrs.length fds mvds x):=(Avv (Aws (by omega))).1;rw [Bcz] at h;obtain ⟨z,hz,hzb⟩:=Aqq Bav (fun _ _=>Iff.rfl) (fun b=>decide (Aa6 b y=0)) (As2 (x:=x) ht hn hf hv hw h1 h2);intro i k hi hk hag;obtain ⟨j,hj,a1,a2,e1,e2⟩:=hz i k hi hk fun a _ ha=>hag a ha;refine ⟨j,hj,fun a ha=>?_,fun a ha hb=>?_⟩
 ·rw [Nat.testBit_or,Bool.or_eq_true] at ha;by_cases hxa:x.testBit a=true
  ·exact Eq.symm (a2 a (Adr.1 hx a hxa) hxa)
  ·have hya:=ha.resolve_left hxa;have han:=Adr.1 hy a hya;refine e1 a han ((hzb a).2 ?_);have hr:(Ag1 t.Attrs.length x).testBit a=true:=by
    unfold Ag1;rw [Aaw,Nat.testBit_two_pow_sub_one,decide_eq_true han];simpa using hxa
   obtain ⟨b,hb,hba⟩:=(hp.all a).1 hr;refine ⟨b,hb,hba,?_⟩;rcases h b hb with h0 | h0
   ·have:=Acf.1 h0 a hba;rw [hya] at this;cases this
   ·exact decide_eq_true h0
 ·rw [Nat.testBit_or,Bool.or_eq_false_iff] at hb;refine e2 a ha ?_;cases hq:z.testBit a with
  | false=>rfl
  | true=>
   obtain ⟨b,_,hba,hby⟩:=(hzb a).1 hq;rw [decide_eq_true_eq] at hby;have:=Ark.1 hby a hba;rw [hb.2] at this;cases this
theorem Bbv (ht:TV t) (hn:t.Attrs.length<=6) (hf:FdOK fds) (hv:∀ d∈fds,sN d.Lhs<2^t.Attrs.length/\sN d.Rhs<2^t.Attrs.length) (hw:∀ m∈mvds,inU t.Attrs.length m.Lhs m.Rhs=true) (h1:∀ d∈fds,SatP t (sN d.Lhs) (sN d.Rhs)) (h2:∀ m∈mvds,MvP t (sN m.Lhs) (sN m.Rhs)) (hx:x<2^t.Attrs.length) {y:Nat} (hy:y<2^32) (h:Aa6 y (cloX t.Attrs.length fds mvds x)=0):SatP t x y:=by
 intro i k hi hk hag;have hkr:k<t.Rows.length:=by omega
 have hx32:x<2^32:=Nat.lt_of_lt_of_le hx (Nat.pow_le_pow_right (by decide) (by omega));have hag:=(Aho ht hx32 hi hkr).1 hag;refine (Aho ht hy hi hkr).2 fun a ha=>?_;have hc:=Ark.1 h a ha;unfold cloX at hc;rw [Ama,Bool.and_eq_true,decide_eq_true_eq,Bool.or_eq_true,decide_eq_true_eq] at hc;obtain ⟨han,hxa | ⟨hb,d,hd,hd1,hd2⟩⟩:=hc
 ·exact hag a hxa
 ·obtain ⟨d0,hd0,rfl⟩:=List.mem_map.1 hd;obtain ⟨j,hj,a1,a2,e1,e2⟩:=As2 (x:=x) ht hn hf hv hw h1 h2 _ hb i k hi hkr fun a _ ha=>hag a ha;have q1:EqA t j i a:=e1 a han (by rw [Aey];simp);have q2:=Ayf ht (hf d0 hd0).1.lt (hf d0 hd0).2.lt (h1 d0 hd0) hj hkr (fun c hc=>e2 c (Adr.1 (hv d0 hd0).1 c hc) (by
   rw [Aey];simp only [decide_eq_false_iff_not];rintro rfl;rw [show (fN d0).1=sN d0.Lhs from rfl] at hd2
   rw [hd2] at hc;cases hc)) a hd1
  exact Eq.trans (Eq.symm q1) q2
end
namespace drosslaw13_BasisSound
theorem valOf {n:Nat} {fds:List api_FD} {mvds:List api_MVD} (hn:n<=6) (h1:fds.length<=6) (h2:mvds.length<=6) (hf:∀ d∈fds,inU n d.Lhs d.Rhs=true) (hm:∀ d∈mvds,inU n d.Lhs d.Rhs=true):Val n fds mvds:=by
 have e:fdsE (n:Int) fds=0:=by
  unfold fdsE;rw [if_neg (by omega),if_neg (by omega),if_pos (by rw [List.all_eq_true];intro d hd;rw [Int.toNat_natCast];exact hf d hd)]
 unfold Val basE;rw [if_pos e,if_neg (by omega),if_pos (by rw [List.all_eq_true];intro d hd;rw [Int.toNat_natCast];exact hm d hd)]
theorem again {φ:Bool->Prop} (h:φ true):L1 φ:=L1_step φ ⟨true,q44_.spec,h⟩
theorem dep_in {n:Nat} {L:List drossref09_Dep} {d:api_FD} (h:d∈depL n L):(U32 d.Lhs/\U32 d.Rhs->True)/\inU n d.Lhs d.Rhs=true:=by
 obtain ⟨x,_,rfl⟩:=List.mem_map.1 h;refine ⟨fun _=>trivial,?_⟩;unfold inU;rw [Acw,Acw,decide_eq_true Aj0,decide_eq_true Aj0];rfl
theorem spec (x0:drossref03_Recipe) (x1:drossref13_Mixed) (x2:drossref09_Dep) (hx:RecOK x0) (hL:Aus x1.D.L) (hM:Aus x1.M) (hd:(0<=x2.L/\x2.L<256)/\0<=x2.R/\x2.R<256):C x0 x1 x2 true:=by
 obtain ⟨r,e1,e2⟩:=enter x0 x1 x2 (fun r=>r=true) (by
  have hA:(x0.Attrs % 6).toNat<=5:=by have:=hx.at_;omega
  refine ⟨_,q43_.spec (most:=8) (by omega) hx,true,q44_.spec,?_⟩;rw [if_pos rfl];by_cases h8:x0.Rows.length<=8
  case neg=>
   have et:tabF x0 8=(⟨⟨#[]⟩,[],[]⟩,false):=if_neg h8;rw [et,if_neg (by simp)];exact again rfl
  have et:tabF x0 8=(Adx x0 (x0.Attrs % 6).toNat,true):=if_pos h8;rw [et,if_pos rfl];by_cases hl6:6<(x1.D.L.length:Int)
  ·rw [if_pos hl6];exact again rfl
  rw [if_neg hl6];by_cases hm4:4<(x1.M.length:Int)
  ·rw [if_pos hm4];exact again rfl
  rw [if_neg hm4];have hT:TV (Adx x0 (x0.Attrs % 6).toNat):=Ba4 (by omega) hx (by omega);have hN:TNum (Adx x0 (x0.Attrs % 6).toNat):=Bdz;have hna:(Adx x0 (x0.Attrs % 6).toNat).Attrs.length=(x0.Attrs % 6).toNat:=Ba3 (by omega);generalize (x0.Attrs % 6).toNat=n at *;generalize Adx x0 n=t at *;have hls:=q54_.spec (n:=n) (L:=x1.D.L) (by omega) hL (by omega);refine ⟨depL n x1.D.L,by show q54_.C (t.Attrs.length:Int) _ _;rw [hna];exact hls,?_⟩;have fok:FdOK (depL n x1.D.L):=Ay4 (by omega);have mok:Agf (mvL (depL n x1.M)):=Bi4 (Ay4 (by omega));have flen:(depL n x1.D.L).length<=6:=by rw [Apt];omega
  have mlen:(mvL (depL n x1.M)).length<=4:=by unfold mvL;rw [List.length_map,Apt];omega
  have fin:∀ d∈depL n x1.D.L,inU n d.Lhs d.Rhs=true:=fun d hd=>(dep_in hd).2;have min:∀ d∈mvL (depL n x1.M),inU n d.Lhs d.Rhs=true:=fun d hd=>by
   obtain ⟨f,hf,rfl⟩:=List.mem_map.1 hd;exact (dep_in hf).2
  have last:∀ (F:List api_FD) (M:List api_MVD),FdOK F->Agf M->F.length<=6->M.length<=6->(∀ d∈F,inU n d.Lhs d.Rhs=true)->(∀ d∈M,inU n d.Lhs d.Rhs=true)->(∀ d∈F,SatP t (sN d.Lhs) (sN d.Rhs))->(∀ d∈M,MvP t (sN d.Lhs) (sN d.Rhs))->L4 x2 (t,true) F M (mvL (depL n x1.M)) (((mvL (depL n x1.M)).length:Nat):Int) (fun r=>r=true):=by
   intro F M hF hM' l1 l2 i1 i2 s1 s2;apply L4_step;rw [if_neg (by omega)];have hls:=q55_.spec (n:=n) (L:=[x2]) (by omega) (fun x hx=>by rw [List.mem_singleton.1 hx];exact hd) (by simp);refine ⟨mvL (depL n [x2]),by show q55_.C (t.Attrs.length:Int) _ _;rw [hna];exact hls,(⟨((sN x2.L &&& (2^n-1):Nat):Int),((sN x2.R &&& (2^n-1):Nat):Int)⟩:api_MVD),rfl,?_⟩;generalize hq:sN x2.L &&& (2^n-1)=q;generalize hr:sN x2.R &&& (2^n-1)=r;have hqn:q<2^n:=by rw [← hq];exact Aj0
   have hrn:r<2^n:=by rw [← hr];exact Aj0
   have H:Mix n F M:=⟨by omega,hF,hM',by omega,by omega⟩
   have V:Val n F M:=valOf (by omega) l1 l2 i1 i2;have h32:=H.p32;have q32:=Nat.lt_of_lt_of_le hqn h32;have r32:=Nat.lt_of_lt_of_le hrn h32;have c1:=q56_.spec H V hqn hrn;have c2:=q42_.spec H V hqn hrn;have c3:=q41_.spec hT (m:=⟨(q:Int),(r:Int)⟩) (U32.of q32) (U32.of r32);have hin:inU t.Attrs.length (q:Int) (r:Int)=true:=by
    rw [hna];unfold inU;rw [Acw,Acw,decide_eq_true hqn,decide_eq_true hrn];rfl
   unfold Ai7 at c3;rw [if_pos hin,Acw,Acw] at c3;obtain ⟨b,c4,hb⟩:=q65_.spec (fd:=⟨(q:Int),(r:Int)⟩) hT rfl rfl q32 r32;have hv:∀ d∈F,sN d.Lhs<2^t.Attrs.length/\sN d.Rhs<2^t.Attrs.length:=fun d hd=>by
    have:=i1 d hd;unfold inU at this;rw [Bool.and_eq_true,decide_eq_true_eq,decide_eq_true_eq] at this;rw [hna];exact this
   have hw:∀ m∈M,inU t.Attrs.length m.Lhs m.Rhs=true:=by rw [hna];exact i2
   refine ⟨_,by show q56_.C (t.Attrs.length:Int) _ _ _ _;rw [hna];exact c1,_,by show q42_.C (t.Attrs.length:Int) _ _ _ _;rw [hna];exact c2,_,c3,?_⟩;rw [if_pos rfl,if_pos rfl,if_pos rfl];have m1:folX n F M q r=true->mvB t q r=true:=fun h=>Ald.2 (Bbw hT (by omega) hF hv hw s1 s2 (by rw [hna];exact hqn) (by rw [hna];exact hrn) (by rw [hna];exact h));have m2:Aa6 r (cloX n F M q)=0->b=true:=fun h=>hb.2 (Bbv hT (by omega) hF hv hw s1 s2 (by rw [hna];exact hqn) r32 (by rw [hna];exact h));have fin2:(if folX n F M q r=true then mvB t q r=true else true=true):=by
    by_cases h:folX n F M q r=true
    ·rw [if_pos h];exact m1 h
    ·rw [if_neg h]
   by_cases hc:Aa6 r (cloX n F M q)=0
   ·rw [if_pos (decide_eq_true hc)];refine ⟨b,c4,?_⟩;rw [if_pos (m2 hc)];exact fin2
   ·rw [if_neg (by simpa using hc)];exact fin2
  have mv:∀ (F:List api_FD),FdOK F->F.length<=6->(∀ d∈F,inU n d.Lhs d.Rhs=true)->(∀ d∈F,SatP t (sN d.Lhs) (sN d.Rhs))->∀ (d k:Nat) (M:List api_MVD),d+k=(mvL (depL n x1.M)).length->Agf M->M.length<=k->(∀ d∈M,inU n d.Lhs d.Rhs=true)->(∀ d∈M,MvP t (sN d.Lhs) (sN d.Rhs))->L4 x2 (t,true) F M (mvL (depL n x1.M)) (k:Int) (fun r=>r=true):=by
   intro F hF l1 i1 s1 d
   induction d with
   | zero=>
    intro k M hk hMo l2 i2 s2;have hk:k=(mvL (depL n x1.M)).length:=by omega
    subst hk;exact last F M hF hMo l1 (by omega) i1 i2 s1 s2
   | succ d ih=>
    intro k M hk hMo l2 i2 s2;have hlt:k<(mvL (depL n x1.M)).length:=by omega
    have hget:=List.getElem?_eq_getElem hlt;have hmem:=List.getElem_mem hlt;generalize (mvL (depL n x1.M))[k]=m at hget hmem;apply L4_step;rw [if_pos (by omega)];refine ⟨m,Abb hget,_,q74_.spec hN (mok m hmem).1 (mok m hmem).2,?_⟩;have hin:inU t.Attrs.length m.Lhs m.Rhs=true:=by rw [hna];exact min m hmem
    have e:Al8 t m=(mvB t (sN m.Lhs) (sN m.Rhs),0):=by
     unfold Al8 Ai7;rw [if_pos (Ami.2 hT),if_pos hin]
    rw [e,if_pos rfl];by_cases hM:mvB t (sN m.Lhs) (sN m.Rhs)=true
    ·rw [if_pos hM];refine ⟨by omega,?_⟩;apply L5_step;rw [Aa9 (by omega)];refine ih (k+1) (M++[m]) (by omega) ?_ (by simp;omega) ?_ ?_
     ·intro z hz;rcases List.mem_append.1 hz with hz | hz
      ·exact hMo z hz
      ·rw [List.mem_singleton.1 hz];exact mok m hmem
     ·intro z hz;rcases List.mem_append.1 hz with hz | hz
      ·exact i2 z hz
      ·rw [List.mem_singleton.1 hz];exact min m hmem
     ·intro z hz;rcases List.mem_append.1 hz with hz | hz
      ·exact s2 z hz
      ·rw [List.mem_singleton.1 hz];exact Ald.1 hM
    ·rw [if_neg hM];apply L5_step;rw [Aa9 (by omega)];exact ih (k+1) M (by omega) hMo (by omega) i2 s2
  have fd:∀ (d k:Nat) (F:List api_FD),d+k=(depL n x1.D.L).length->FdOK F->F.length<=k->(∀ d∈F,inU n d.Lhs d.Rhs=true)->(∀ d∈F,SatP t (sN d.Lhs) (sN d.Rhs))->L2 x1 x2 (t,true) F (depL n x1.D.L) (k:Int) (fun r=>r=true):=by
   intro d
   induction d with
   | zero=>
    intro k F hk hF l1 i1 s1;apply L2_step;rw [if_neg (by omega)];have hls:=q55_.spec (n:=n) (L:=x1.M) (by omega) hM (by omega);exact ⟨mvL (depL n x1.M),by show q55_.C (t.Attrs.length:Int) _ _;rw [hna];exact hls,mv F hF (by omega) i1 s1 (mvL (depL n x1.M)).length 0 [] rfl (fun _ h=>by cases h) (Nat.zero_le _) (fun _ h=>by cases h) (fun _ h=>by cases h)⟩
   | succ d ih=>
    intro k F hk hF l1 i1 s1;have hlt:k<(depL n x1.D.L).length:=by omega
    have hget:=List.getElem?_eq_getElem hlt;have hmem:=List.getElem_mem hlt;generalize (depL n x1.D.L)[k]=m at hget hmem;apply L2_step;rw [if_pos (by omega)];obtain ⟨b,c4,hb⟩:=q65_.spec (fd:=m) hT (fok m hmem).1.eq (fok m hmem).2.eq (fok m hmem).1.lt (fok m hmem).2.lt;refine ⟨m,Abb hget,b,c4,?_⟩;by_cases hbt:b=true
    ·rw [if_pos hbt];refine ⟨by omega,?_⟩;apply L3_step;rw [Aa9 (by omega)];refine ih (k+1) (F++[m]) (by omega) ?_ (by simp;omega) ?_ ?_
     ·intro z hz;rcases List.mem_append.1 hz with hz | hz
      ·exact hF z hz
      ·rw [List.mem_singleton.1 hz];exact fok m hmem
     ·intro z hz;rcases List.mem_append.1 hz with hz | hz
      ·exact i1 z hz
      ·rw [List.mem_singleton.1 hz];exact fin m hmem
     ·intro z hz;rcases List.mem_append.1 hz with hz | hz
      ·exact s1 z hz
      ·rw [List.mem_singleton.1 hz];exact hb.1 hbt
    ·rw [if_neg hbt];apply L3_step;rw [Aa9 (by omega)];exact ih (k+1) F (by omega) hF (by omega) i1 s1
  exact fd (depL n x1.D.L).length 0 [] rfl (fun _ h=>by cases h) (Nat.zero_le _) (fun _ h=>by cases h) (fun _ h=>by cases h))
 subst e1;exact e2
theorem law {xs:List D} (hx:Ak3 env.P Ajx Ajy xs):Ret env Ajw xs (.lit (.bool true)) []:=
 Aja (fun x0 x1 x2 h0 h1 h2=>spec x0 x1 x2 ⟨Aix h0.1,Aix h0.2.1,fun r hr c hc=>Aix ((h0.2.2.2 r hr).2 c hc)⟩ (fun x hx=>⟨Aix (h1.1.2.2 x hx).1,Aix (h1.1.2.2 x hx).2⟩) (fun x hx=>⟨Aix (h1.2.2 x hx).1,Aix (h1.2.2 x hx).2⟩) ⟨Aix h2.1,Aix h2.2⟩) hx
end drosslaw13_BasisSound
end Go.Own
