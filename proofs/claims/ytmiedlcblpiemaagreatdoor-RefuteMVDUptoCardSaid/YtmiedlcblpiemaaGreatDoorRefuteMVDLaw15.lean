/- What the functions answer. No conditions. -/
import Derived.Test.YtmiedlcblpiemaaGreatDoorRefuteMVDLaw14
import Derived.Test.YtmiedlcblpiemaaGreatDoorRefuteMVDLaw7
set_option linter.all false
open Nat renaming lt_of_lt_of_le->zA,zero_testBit->zF,pow_le_pow_right->zG,eq_of_testBit_eq->zN,not_lt_zero->zP,le_refl->zQ,or_lt_two_pow->zR,testBit_two_pow_sub_one->zS,pow_pos->zX,lt_of_le_of_lt->zY,strongRecOn->yA,testBit_lt_two_pow->yC,testBit_or->yD,mul_le_mul_right->yE,and_le_right->yI
open List renaming mem_of_getElem?->zB,getElem?_eq_some_iff->zC,getElem?_of_mem->zD,mem_map->zE,mem_singleton->zI,all_eq_true->zO,any_eq_true->zV,length_map->zW,length_cons->zZ,take_of_length_le->yB,any_cons->yF,length_append->yH
open Bool renaming and_eq_true->zH,eq_iff_iff->zL,false_eq_true->zM,or_eq_true->zT,not_eq_true'->zU,false_or->yG
open Int renaming toNat_natCast->zK
namespace Go.Own
def depL(n:Nat)(L:List drossref09_Dep):List api_FD:=L.map fun x=>{ Lhs:=((sN x.L &&& (2^n-1):Nat):Int),Rhs:=((sN x.R &&& (2^n-1):Nat):Int) }
def Anl(L:List drossref09_Dep):Prop:=∀x∈L,(0<=x.L/\x.L<256)/\0<=x.R/\x.R<256
def Ar1{x:Int}(h:0<=x/\x<256){n:Nat}(hn:n<=16):bAnd .u32 (IntKind.wrap .u32 x) ((2^n-1:Nat):Int)=((sN x &&& (2^n-1):Nat):Int):=by
 have hp:=Ara hn;have e:x=((sN x:Nat):Int):=by unfold sN;omega
 have e2:IntKind.wrap .u32 x=((sN x:Nat):Int):=by
  conv=>lhs;rw[e]
  exact Ae0 (k:=.u32) (by simp only[top];unfold sN;omega)
 rw[e2];exact Adv (k:=.u32) (by simp only[top];unfold sN;omega) (by simp only[top];omega)
def Ahq{x n:Nat}:x &&& (2^n-1)<2^n:=by
 have:=yI (n:=x) (m:=2^n-1);have:0<2^n:=zX (by omega);omega
def q79_.sP{n:Nat}{L:List drossref09_Dep}(hn:n<=16)(hL:Anl L)(hlen:L.length<=4000000):q79_.C n L (depL n L):=by
 obtain⟨r,h1,h2⟩:=q79_.nt n L (fun r=>r=depL n L) (by
  refine⟨_,Am3 hn,?_⟩;have:∀(r:List drossref09_Dep)(k:Nat),L.drop k=r->k<=L.length->q79_.L1 L ((2^n-1:Nat):Int) (depL n (L.take k)) k (fun r=>r=depL n L):=by
   intro r
   induction r with
   |nil=>
    intro k hd hk;have:=Aap hd;apply q79_.K1;rw[if_neg (by omega),yB (by omega)]
   |cons x r ih=>
    intro k hd hk;have hlt:=Aaq hd;have hx:=hL x (zB (Aab hd));have next:=ih (k+1) (Aa8 hd) (by omega);rw[List.take_add_one,Aab hd,Option.toList_some]at next;unfold depL at next;rw[List.map_append,List.map_cons,List.map_nil]at next;apply q79_.K1;rw[if_pos (by omega)];refine⟨x,Ab9 hd,?_⟩;rw[Ar1 hx.1 hn,Ar1 hx.2 hn,Aa5 (by omega)];exact⟨by unfold depL;rw[zW,List.length_take];omega,next⟩
  exact this L 0 rfl (Nat.zero_le _))
 rw[<-h1];exact h2
def depN(N:Int):Nat:=(N%7).toNat
def Ar0{N:Int}:depN N<=6:=by unfold depN;omega
def q95_.sP{d:drossref09_Deps}(hN:0<=d.N/\d.N<256)(hL:Anl d.L)(hlen:d.L.length<=4000000):q95_.C d (((depN d.N:Nat):Int),depL (depN d.N) d.L,decide ((d.L.length:Int)<=6)):=by
 obtain⟨r,h1,h2⟩:=q95_.nt d (fun r=>r=(((depN d.N:Nat):Int),depL (depN d.N) d.L,decide ((d.L.length:Int)<=6))) (by
  have e:IntKind.wrap .i64 (Int.tmod d.N 7)=((depN d.N:Nat):Int):=by
   rw[Int.tmod_eq_emod_of_nonneg hN.1];have:d.N%7=((depN d.N:Nat):Int):=by unfold depN;omega
   rw[this];exact Ae0 (k:=.i64) (by simp only[top];have:=Ar0 (N:=d.N);omega)
  rw[e]
  exact⟨_,q79_.sP (by have:=Ar0 (N:=d.N);omega) hL hlen,rfl⟩)
 rw[<-h1];exact h2
def At5:∀(es:List (List D)),es.length<=wtLL es
 |[]=>zQ _
 |x::r=>by simp only[wtLL,zZ];have:=At5 r;omega
def Bcd{n:Nat}{L:List drossref09_Dep}(hn:n<=16):FdOK (depL n L):=fun d hd=>by
 obtain⟨x,_,rfl⟩:=zE.1 hd;have hp:=Ara hn;exact⟨U32.of (zA Ahq (by omega)),U32.of (zA Ahq (by omega))⟩
def Akv{n:Nat}{L:List drossref09_Dep}:(depL n L).length=L.length:=by simp[depL]
def Bhk{n:Nat}{L:List drossref09_Dep}(hn:n<=6)(hl:L.length<=6):errA (n:Int) (depL n L)=0:=by
 have h0:fdsE (n:Int) (depL n L)=0:=by
  unfold fdsE;rw[if_neg (by omega),if_neg (by rw[Akv];omega),if_pos];rw[zO];intro d hd;obtain⟨x,_,rfl⟩:=zE.1 hd;unfold inU;rw[Aco,Aco,zK,decide_eq_true Ahq,decide_eq_true Ahq];rfl
 unfold errA;rw[if_pos h0,if_neg (by omega)]
structure Mix(n:Nat)(fds:List api_FD)(mvds:List api_MVD):Prop where
 n6:n<=6
 fok:FdOK fds
 mok:Aeg mvds
 f64:fds.length<=64
 m64:mvds.length<=64
def Acn(n x:Nat):Nat:=Aa7 (2^n-1) x
def Bao{n:Nat}(hn:n<=16):2^n-1<2^32:=zA (Nat.sub_lt (zX (by omega)) (by omega)) (zG (by omega) (by omega))
def Aok{n x:Nat}(hn:n<=16):Acn n x<2^n:=zY Adf (Nat.sub_lt (zX (by omega)) (by omega))
def Aoj{n x:Nat}(hn:n<=16):Acn n x<2^32:=zA (Aok hn) (zG (by omega) (by omega))
def Arc{n x:Nat}(hn:n<=6):Acn n x<2^6:=zA (Aok (by omega)) (zG (by omega) (by omega))
def Bcr{n x:Nat}:Acn n x &&& x=0:=Abx.2 fun i hi=>by
 unfold Acn at hi;rw[Aa9,zH,zU]at hi;exact hi.2
def blk(n:Nat)(fds:List api_FD)(mvds:List api_MVD)(x:Nat):List Nat:=finB (fds.map fN) (mvds.map mN) (Acn n x)
structure Chased(n:Nat)(fds:List api_FD)(mvds:List api_MVD)(x live:Nat)(R:List Nat):Prop where
 rows:Acd (fds.map fN) (blk n fds mvds x) (Acn n x) live R
 done:Closed2 (fds.map fN) (mvds.map mN) fun u=>u∈R
section
variable{n x:Nat}{fds:List api_FD}{mvds:List api_MVD}
def Mix.part(h:Mix n fds mvds):BPart (Acn n x) (blk n fds mvds x):=(Ao1 (Aoj (by have:=h.n6;omega))).1
def Mix.fin(h:Mix n fds mvds):BFin (Ai0 (fds.map fN) (mvds.map mN)) (blk n fds mvds x):=(Ao1 (Aoj (by have:=h.n6;omega))).2
def Awk{R:List Nat}(h1:∀d∈fds,Ah5 (fN d) R)(h2:∀m∈mvds,Akq (mN m) R):Closed2 (fds.map fN) (mvds.map mN) fun u=>u∈R where
 fd d hd r s hr hs ha:=by obtain⟨f,hf,rfl⟩:=zE.1 hd;exact h1 f hf r s hr hs ha
 mv m hm r s hr hs ha:=by obtain⟨f,hf,rfl⟩:=zE.1 hm;exact h2 f hf r s hr hs ha
def Aby(live:Nat)(R:List Nat):Nat:=live*65+(64-R.length)
namespace q64_
def loop(H:Mix n fds mvds){J:drossref13_Two->Prop}(hφ:∀live R,Chased n fds mvds x live R->J ⟨lN R⟩):
  ∀(μ live:Nat)(R:List Nat)(b:Bool),Acd (fds.map fN) (blk n fds mvds x) (Acn n x) live R->Aby live R<=μ->L1 fds mvds (b,⟨lN R⟩) true J:=by
 have hp:=H.part (x:=x);have hf:=H.fin (x:=x);have hr6:=Arc (x:=x) H.n6;intro μ
 induction μ using yA with
 |_ μ ihμ=>
 intro live R b hR hμ;have C4:∀(l:List api_MVD)(j:Nat),mvds.drop j=l->∀(live:Nat)(R:List Nat)(b ch:Bool),Acd (fds.map fN) (blk n fds mvds x) (Acn n x) live R->Aby live R<=μ->(ch=true->Aby live R<μ) ->
   (ch=false->(∀d∈fds,Ah5 (fN d) R)/\∀(q:Nat)(m:api_MVD),q<j->mvds[q]?=some m->Akq (mN m) R)->L4 fds mvds (b,⟨lN R⟩) ch (j:Int) J:=by
  intro l
  induction l with
  |nil=>
   intro j hj live R b ch hR hμ hch hno;have:=Aap hj;apply K4;rw[if_neg (by omega)];cases ch with
   |true=>exact ihμ _ (hch rfl) live R b hR (zQ _)
   |false=>
    apply K1;rw[if_neg (by simp)];obtain⟨h1,h2⟩:=hno rfl;refine hφ live R ⟨hR,Awk h1 fun m hm=>?_⟩;obtain⟨q,hq⟩:=zD hm;exact h2 q m (by have:=(zC.1 hq).1;omega) hq
  |cons m l ih=>
   intro j hj live R b ch hR hμ hch hno;have hlt:=Aaq hj;have hm:=Aab hj;have hmm:=zB hm;have h64:=H.m64;apply K4;rw[if_pos (by omega)];refine⟨m,Ab9 hj,?_⟩;have hg:=Acd.grows (live:=live) hp hf hr6 (m:=mN m) (zE.2 ⟨m,hmm,rfl⟩);rcases q36_.sP (H.mok m hmm) hg hR with⟨A,hA,hlen,hc⟩|⟨hd,hc⟩
   .refine ⟨_,hc,?_⟩;rw[if_pos rfl];apply K5;rw[Aa5 (by omega)];have hAl:=hA.len hr6;have hlt2:Aby live A<Aby live R:=by unfold Aby;omega
    exact ih (j+1) (Aa8 hj) live A true true hA (by omega) (fun _=>by omega) (fun h=>by cases h)
   .refine ⟨_,hc,?_⟩;rw[if_neg (by simp)];apply K5;rw[Aa5 (by omega)];refine ih (j+1) (Aa8 hj) live R false ch hR hμ hch fun h=>⟨(hno h).1,fun q m' hq hm'=>?_⟩
    by_cases hqj:q=j
    .subst hqj;rw[hm]at hm';cases hm';exact hd
    .exact (hno h).2 q m' (by omega) hm'
 have C2:∀(l:List api_FD)(i:Nat),fds.drop i=l->∀(live:Nat)(R:List Nat)(b ch:Bool),Acd (fds.map fN) (blk n fds mvds x) (Acn n x) live R->Aby live R<=μ->(ch=true->Aby live R<μ) ->
   (ch=false->∀(q:Nat)(d:api_FD),q<i->fds[q]?=some d->Ah5 (fN d) R)->L2 fds mvds (b,⟨lN R⟩) ch (i:Int) J:=by
  intro l
  induction l with
  |nil=>
   intro i hi live R b ch hR hμ hch hno;have:=Aap hi;apply K2;rw[if_neg (by omega)];refine C4 mvds 0 rfl live R b ch hR hμ hch fun h=>⟨fun d hd=>?_,fun q m hq=>absurd hq (zP q)⟩
   obtain⟨q,hq⟩:=zD hd;exact hno h q d (by have:=(zC.1 hq).1;omega) hq
  |cons d l ih=>
   intro i hi live R b ch hR hμ hch hno;have hlt:=Aaq hi;have hd:=Aab hi;have hdm:=zB hd;have h64:=H.f64;apply K2;rw[if_pos (by omega)];have C3:∀(live:Nat)(R:List Nat)(b ch:Bool),Acd (fds.map fN) (blk n fds mvds x) (Acn n x) live R->Aby live R<=μ->(ch=true->Aby live R<μ) ->
     (ch=false->∀(q:Nat)(d:api_FD),q<i->fds[q]?=some d->Ah5 (fN d) R)->L3 fds mvds (b,⟨lN R⟩) ch (i:Int) J:=by
    intro live
    induction live using yA with
    |_ live ihl=>
    intro R b ch hR hμ hch hno;apply K3;refine⟨d,Ab9 hi,?_⟩;have hRl:=hR.len hr6;rcases q47_.sP (H.fok d hdm) (fun r hr=>zA (hR.lt hr6 hr) (by decide)) (by omega)with⟨A,hA,hc⟩|⟨hdn,hc⟩
    .refine ⟨_,hc,?_⟩;rw[if_pos rfl];obtain⟨live',hl',hA'⟩:=hR.used hp hf hr6 (zE.2 ⟨d,hdm,rfl⟩) (H.fok d hdm).2.lt hA;have hAl:=hA'.len hr6;have hlt2:Aby live' A<Aby live R:=by
      unfold Aby;have:(live'+1)*65<=live*65:=yE _ hl';omega
     exact ihl live' hl' A true true hA' (by omega) (fun _=>by omega) (fun h=>by cases h)
    .refine ⟨_,hc,?_⟩;rw[if_neg (by simp),Aa5 (by omega)];refine ih (i+1) (Aa8 hi) live R false ch hR hμ hch fun h q d' hq hd'=>?_;by_cases hqi:q=i
     .subst hqi;rw[hd]at hd';cases hd';exact hdn
     .exact hno h q d' (by omega) hd'
   exact C3 live R b ch hR hμ hch hno
 apply K1;rw[if_pos rfl];exact C2 fds 0 rfl live R b false hR hμ (fun h=>by cases h) (fun _ q d hq=>absurd hq (zP q))
def sP(H:Mix n fds mvds)(hx:x<2^32):∃live R,Chased n fds mvds x live R/\C n fds mvds x ⟨lN R⟩:=by
 have hn:=H.n6;obtain⟨r,⟨live,R,h1,rfl⟩,h2⟩:=nt n fds mvds x (fun r=>∃live R,Chased n fds mvds x live R/\r=⟨lN R⟩) (by
  refine⟨_,Am3 (by omega),?_⟩;rw[Abp (Ab7 (Bao (by omega))) (Ab7 hx)];have:=q35_.sP (R:=[0]) (x:=Aa7 (2^n-1) x) (by decide);refine⟨_,this,?_⟩;have hR0:Acd (fds.map fN) (blk n fds mvds x) (Acn n x) (Acn n x) (if Aa7 (2^n-1) x∈[0]then[0]else[0]++[Aa7 (2^n-1) x]):=by
   have hmem:∀u,u∈(if Aa7 (2^n-1) x∈[0]then[0]else[0]++[Aa7 (2^n-1) x])↔u=0∨u=Acn n x:=by
    intro u;unfold Acn
    split
    .rename_i h;simp only[zI]at h⊢;rw[h];simp
    .simp
   refine⟨?_,?_⟩
   .split
    .simp
    .rename_i h;simp only[zI]at h;simp[Ne.symm h]
   .constructor
    .exact (hmem _).2 (.inl rfl)
    .exact (hmem _).2 (.inr rfl)
    .intro r hr i hi;rcases(hmem r).1 hr with rfl|rfl
     .rw [zF]at hi;cases hi
     .exact hi
    .exact fun i hi=>hi
    .intro r hr b hb;rcases(hmem r).1 hr with rfl|rfl
     .exact .inl fun i _ _=>zF i
     .exact .inr fun i _ h=>h
    .intro i h1 h2;rw[h1]at h2;cases h2
  exact loop H (fun live R h=>⟨live,R,h,rfl⟩) _ _ _ _ hR0 (zQ _))
 exact⟨live,R,h1,h2⟩
end q64_
def Chased.lt{live:Nat}{R:List Nat}(h:Chased n fds mvds x live R)(hn:n<=6){r:Nat}(hr:r∈R):r<2^n:=h.rows.lt (Aok (by omega)) hr
def Chased.live_lt{live:Nat}{R:List Nat}(h:Chased n fds mvds x live R)(hn:n<=6):live<2^n:=h.lt hn h.rows.2.top
def Chased.len{live:Nat}{R:List Nat}(h:Chased n fds mvds x live R)(hn:n<=6):R.length<=64:=h.rows.len (Arc hn)
def orN(R:List Nat)(a:Nat):Nat:=R.foldl (fun a r=>a ||| r) a
def Bcn:∀{R:List Nat}{a i:Nat},(orN R a).testBit i=(a.testBit i || R.any fun r=>r.testBit i)
 |[],a,i=>by simp[orN]
 |r::R,a,i=>by
  show(orN R (a ||| r)).testBit i=_;rw[Bcn,yD,yF,Bool.or_assoc]
def q30_.sP{R:List Nat}(hR:∀r∈R,r<2^32)(hl:R.length<=1000):q30_.C ⟨lN R⟩ ((orN R 0:Nat):Int):=by
 obtain⟨r,h1,h2⟩:=q30_.nt ⟨lN R⟩ (fun r=>r=((orN R 0:Nat):Int)) (by
  have go:∀(l:List Nat)(i a:Nat),R.drop i=l->a<2^32->orN l a=orN R 0->q30_.L1 ⟨lN R⟩ (a:Int) (i:Int) (fun r=>r=((orN R 0:Nat):Int)):=by
   intro l
   induction l with
   |nil=>
    intro i a hi _ h;have:=Aap hi;apply q30_.K1;rw[if_neg (by show ¬(i:Int)<((lN R).length:Int);rw[Abg];omega)];rw[<-h];rfl
   |cons r l ih=>
    intro i a hi ha h;have hlt:=Aaq hi;have hr:=Aab hi;have hr32:=hR r (zB hr);apply q30_.K1;rw[if_pos (by show(i:Int)<((lN R).length:Int);rw[Abg];omega)];refine⟨_,Afp hr,?_⟩;rw[Ae7 (Ab7 ha) (Ab7 hr32),Aa5 (by omega)];exact ih (i+1) _ (Aa8 hi) (zR ha hr32) h
  exact go R 0 0 rfl (by decide) rfl)
 rw[<-h1];exact h2
def Chased.orN{live:Nat}{R:List Nat}(h:Chased n fds mvds x live R):orN R 0=live:=by
 apply zN;intro i;rw[Bcn,zF,yG,zL,zV];constructor
 .rintro ⟨r,hr,hi⟩;exact h.rows.2.sub r hr i hi
 .intro hi;exact⟨live,h.rows.2.top,hi⟩
def Chased.live(h:Mix n fds mvds){live:Nat}{R:List Nat}(hc:Chased n fds mvds x live R):q30_.C ⟨lN R⟩ (live:Int):=by
 have hn:=h.n6;have:=q30_.sP (R:=R) (fun r hr=>zA (hc.lt hn hr) (zG (by omega) (by omega))) (by have:=hc.len hn;omega);rw[hc.orN]at this;exact this
def Mix.f32(h:Mix n fds mvds):∀d∈fds.map fN,d.2<2^32:=fun d hd=>by
 obtain⟨f,hf,rfl⟩:=zE.1 hd;exact(h.fok f hf).2.lt
def cloX(n:Nat)(fds:List api_FD)(mvds:List api_MVD)(x:Nat):Nat:=Ahb (fun i=>x.testBit i || decide (2^i∈blk n fds mvds x/\∃d∈fds.map fN,d.2.testBit i=true/\d.1.testBit i=false)) n
def Bjk:cloX n fds mvds x<2^n:=Aq4 n
def Chased.clo(h:Mix n fds mvds)(hx:x<2^n){live:Nat}{R:List Nat}(hc:Chased n fds mvds x live R):Aa7 (2^n-1) live=cloX n fds mvds x:=by
 have hn:=h.n6;apply zN;intro i;unfold cloX;rw[Akh,Aa9,zS];by_cases hi:i<n
 .simp only[hi,decide_true,Bool.true_and];have hl:=Bi9 (Aoj (by omega)) Bcr h.f32 hc.rows.2 hc.done i;have hrest:(Acn n x).testBit i=!x.testBit i:=by
   unfold Acn;rw[Aa9,zS];simp[hi]
  rw[hrest,zU]at hl;cases hxi:x.testBit i with
  |true=>
   have:live.testBit i=false:=by
    cases hq:live.testBit i with
    |false=>rfl
    |true=>
     have:=hc.rows.2.lsub i hq;rw[hrest,hxi]at this;cases this
   rw[this];rfl
  |false=>
   rw[yG,zL,zU,decide_eq_true_eq];constructor
   .intro hq;exact hl.1 ⟨hxi,hq⟩
   .intro hq;exact(hl.2 hq).2
 .simp [hi]
def folX(n:Nat)(fds:List api_FD)(mvds:List api_MVD)(x y:Nat):Bool:=(blk n fds mvds x).all fun b=>decide (b &&& y=0) || decide (Aa7 b y=0)
def Bhs{y:Nat}:folX n fds mvds x y=true↔∀b∈blk n fds mvds x,b &&& y=0∨Aa7 b y=0:=by
 unfold folX;rw[zO];exact forall_congr' fun b=>forall_congr' fun _=>by rw[zT,decide_eq_true_eq,decide_eq_true_eq]
def Chased.fol(h:Mix n fds mvds){live y:Nat}{R:List Nat}(hc:Chased n fds mvds x live R):Aa7 live (x ||| y)∈R↔folX n fds mvds x y=true:=by
 have hn:=h.n6;rw[Bhs];exact Bbp (Aoj (by omega)) Bcr h.f32 hc.rows.2 hc.done y
def Chased.in_(h:Mix n fds mvds){live y:Nat}{R:List Nat}(hx:x<2^32)(hy:y<2^32)(hc:Chased n fds mvds x live R):q91_.C (lN R) (Aae .u32 (live:Int) (bOr .u32 (x:Int) (y:Int))) (folX n fds mvds x y):=by
 have hn:=h.n6;have hl:live<2^32:=zA (hc.live_lt hn) (zG (by omega) (by omega));rw[Ae7 (Ab7 hx) (Ab7 hy),Abp (Ab7 hl) (Ab7 (zR hx hy))];have:=q91_.sP (l:=lN R) (x:=((Aa7 live (x ||| y):Nat):Int)) (by rw[Abg];have:=hc.len hn;omega);have e:decide (((Aa7 live (x ||| y):Nat):Int)∈lN R)=folX n fds mvds x y:=by
  rw[zL,decide_eq_true_eq,Apx];exact hc.fol h
 rw[e]at this;exact this
def q37_.sP(h:Mix n fds mvds){y:Nat}(hx:x<2^32)(hy:y<2^32):q37_.C n fds mvds x y (folX n fds mvds x y):=by
 obtain⟨r,h1,h2⟩:=q37_.nt n fds mvds x y (fun r=>r=folX n fds mvds x y) (by
  obtain⟨live,R,hc,hC⟩:=q64_.sP (x:=x) h hx
  exact⟨_,hC,_,hc.live h,_,hc.in_ h hx hy,rfl⟩)
 rw[<-h1];exact h2
end
def bltR(n:Nat):List Nat->Nat->List api_Row
 |[],_=>[]
 |r::R,k=>⟨((k+1:Nat):Int),rowV n r⟩::bltR n R (k+1)
def Az3{n:Nat}:∀{R:List Nat}{k:Nat},(bltR n R k).length=R.length
 |[],_=>rfl
 |r::R,k=>by simp only[bltR,zZ];rw[Az3]
def Ant{n:Nat}:∀{R:List Nat}{k i:Nat},(bltR n R k)[i]?=R[i]?.map fun r=>(⟨((k+i+1:Nat):Int),rowV n r⟩:api_Row)
 |[],_,i=>by simp[bltR]
 |r::R,k,0=>by simp[bltR]
 |r::R,k,i+1=>by
  simp only[bltR,List.getElem?_cons_succ];rw[Ant,show k+1+i+1=k+(i+1)+1 by omega]
def bltT(n:Nat)(R:List Nat):api_Table:=⟨⟨#[116]⟩,abcK.take n,bltR n R 0⟩
def q103_.all{n:Nat}{R:List Nat}(hn:n<=16)(hR:∀r∈R,r<2^32)(hl:R.length<=1000):q103_.C n (lN R) (bltT n R):=by
 obtain⟨r,h1,h2⟩:=q103_.nt n (lN R) (fun r=>r=bltT n R) (by
  have rows:∀(l:List Nat)(k:Nat)(acc:List api_Row),R.drop k=l->acc.length=k->acc++bltR n l k=bltR n R 0->q103_.L2 n (lN R) (abcK.take n) acc (k:Int) (fun r=>r=bltT n R):=by
   intro l
   induction l with
   |nil=>
    intro k acc hk _ ha;have:=Aap hk;apply q103_.K2;rw[if_neg (by rw[Abg];omega)];unfold bltT;rw[<-ha];simp[bltR]
   |cons a l ih=>
    intro k acc hk hac ha;have hlt:=Aaq hk;have hg:=Aab hk;apply q103_.K2;rw[if_pos (by rw[Abg];omega)];refine⟨_,Afp hg,?_⟩;rw[Aa5 (by omega)];refine q103_.cells (m:=a) (k:=k) (rows:=acc) hn (hR a (zB hg)) (by omega) (by omega) ?_ n 0 (by omega);refine ih (k+1) _ (Aa8 hk) (by simp[hac]) ?_;rw[<-ha];simp[bltR]
  have:∀(d i:Nat),d+i=n->q103_.L1 n (lN R) (abcK.take i) i (fun r=>r=bltT n R):=by
   intro d
   induction d with
   |zero=>
    intro i hd;have:i=n:=by omega
    subst this;apply q103_.K1;rw[if_neg (by omega)];exact rows R 0 [] rfl rfl rfl
   |succ d ih=>
    intro i hd;have next:=ih (i+1) (by omega);rw[Bew (by omega),<-Bh3 ⟨i,by omega⟩]at next;apply q103_.K1;rw[if_pos (by omega),Aa5 (by omega)];exact⟨by rw[Ays (by omega)];omega,next⟩
  exact this n 0 rfl)
 rw[<-h1];exact h2
section
variable{n:Nat}{R:List Nat}
def Az2(n:Nat):∀(R:List Nat)(k:Nat)(last:Int),last<=k->Aem n last (bltR n R k)=0
 |[],_,_,_=>rfl
 |r::R,k,last,h=>by
  simp only[bltR];rw[Aem,if_neg (by show ¬((k+1:Nat):Int)<=last;omega),if_pos Bat,if_pos Bee];exact Az2 n R (k+1) _ (by show((k+1:Nat):Int)<=_;omega)
def Ahm:(bltT n R).Rows.length=R.length:=Az3
def Ago(hn:n<=16):(bltT n R).Attrs.length=n:=Ays hn
def Avg(hn:n<=16)(hl:R.length<=1000):TV (bltT n R) where
 name:=Bg8 (by decide)
 na:=by rw[Ago hn];exact hn
 nr:=by rw[Ahm];exact hl
 names:=Bd4
 rows:=by rw[Ago hn];exact Az2 n R 0 0 (Int.le_refl _)
def Aiv{i k r s a:Nat}(hi:R[i]?=some r)(hk:R[k]?=some s)(ha:a<n):EqA (bltT n R) i k a↔r.testBit a=s.testBit a:=by
 unfold EqA bltT;show((bltR n R 0)[i]?.map fun r=>r.Values[a]?)=((bltR n R 0)[k]?.map fun r=>r.Values[a]?)↔_;rw[Ant,Ant,hi,hk];show some ((rowV n r)[a]?)=some ((rowV n s)[a]?)↔_;rw[Bas ha,Bas ha];cases r.testBit a<;>cases s.testBit a<;>simp[bitV]
def Aps{i:Nat}(h:i<R.length):∃r,R[i]?=some r/\r∈R:=⟨R[i],List.getElem?_eq_getElem h,List.getElem_mem h⟩
def Afe{l i k r s:Nat}(hl:l<2^n)(hi:R[i]?=some r)(hk:R[k]?=some s):(∀a,l.testBit a=true->EqA (bltT n R) i k a)↔Aax l r s:=
 forall_congr' fun a=>forall_congr' fun ha=>Aiv hi hk (Ad1.1 hl a ha)
def Az4{l r:Nat}(hn:n<=16)(hlen:R.length<=1000)(hl:l<2^n)(hr:r<2^n):SatP (bltT n R) l r↔∀u v,u∈R->v∈R->Aax l u v->Aax r u v:=by
 have hp:=Ara hn;rw[Blq (Avg hn hlen) (by omega) (by omega),Ahm];constructor
 .intro h u v hu hv ha;obtain⟨i,hi⟩:=zD hu;obtain⟨k,hk⟩:=zD hv;have hil:=(zC.1 hi).1;have hkl:=(zC.1 hk).1;rcases Nat.lt_trichotomy k i with hlt|he|hlt
  .exact (Afe hr hi hk).1 (h i k hil hlt ((Afe hl hi hk).2 ha))
  .subst he;rw[hi]at hk;cases hk;exact fun _ _=>rfl
  .exact fun b hb=>((Afe hr hk hi).1 (h k i hkl hlt ((Afe hl hk hi).2 fun b hb=>(ha b hb).symm)) b hb).symm
 .intro h i k hi hk e;obtain⟨u,hu,hum⟩:=Aps hi;obtain⟨v,hv,hvm⟩:=Aps (R:=R) (i:=k) (by omega);exact(Afe hr hu hv).2 (h u v hum hvm ((Afe hl hu hv).1 e))
def Bjh{m:Nat×Nat}(hn:n<=16)(hl:m.1<2^n)(hr:m.2<2^n)(h:∀u v,u∈R->v∈R->Aax m.1 u v->mixR m u v∈R):MvP (bltT n R) m.1 m.2:=by
 intro i k hi hk e;rw[Ahm]at hi hk;obtain⟨u,hu,hum⟩:=Aps hi;obtain⟨v,hv,hvm⟩:=Aps hk;obtain⟨j,hj⟩:=zD (h u v hum hvm ((Afe hl hu hv).1 e));refine⟨j,by rw[Ahm];exact(zC.1 hj).1,fun a ha=>?_,fun a ha hb=>?_⟩
 .rw [Aiv hj hu (Ad1.1 (zR hl hr) a ha),Age,if_pos ha]
 .rw [Ago hn]at ha;rw[Aiv hj hv ha,Age,if_neg (by rw[hb];simp)]
end
def q61_.both{t:api_Table}(ht:TV t){l:List api_FD}{ms:List api_MVD}(hl:FdOK l)(hm:Aeg ms)(hlen:l.length<1000000000)(hlen2:ms.length<1000000000)(h1:∀d∈l,SatP t (sN d.Lhs) (sN d.Rhs))(h2:∀m∈ms,inU t.Attrs.length m.Lhs m.Rhs=true/\MvP t (sN m.Lhs) (sN m.Rhs)):q61_.C t l ms true:=by
 obtain⟨r,e1,e2⟩:=q61_.nt t l ms (fun r=>r=true) (by
  have second:∀(r:List api_MVD)(k:Nat),ms.drop k=r->q61_.L2 t ms (k:Int) (fun r=>r=true):=by
   intro r
   induction r with
   |nil=>
    intro k hk;have:=Aap hk;apply q61_.K2;rw[if_neg (by omega)]
   |cons m r ih=>
    intro k hk;have hlt:=Aaq hk;have hmm:=zB (Aab hk);apply q61_.K2;rw[if_pos (by omega)];refine⟨m,Ab9 hk,_,q56_.sP ht (hm m hmm).1 (hm m hmm).2,?_⟩;have e:(Afo t m).1=true:=by
     unfold Afo;rw[if_pos (h2 m hmm).1];exact Aj3.2 (h2 m hmm).2
    rw[if_pos e,Aa5 (by omega)];exact ih (k+1) (Aa8 hk)
  have first:∀(r:List api_FD)(k:Nat),l.drop k=r->q61_.L1 t l ms (k:Int) (fun r=>r=true):=by
   intro r
   induction r with
   |nil=>
    intro k hk;have:=Aap hk;apply q61_.K1;rw[if_neg (by omega)];exact second ms 0 rfl
   |cons d r ih=>
    intro k hk;have hlt:=Aaq hk;have hdm:=zB (Aab hk);obtain⟨b,hb,hi⟩:=Aiw ht (hl d hdm).1 (hl d hdm).2;apply q61_.K1;rw[if_pos (by omega)];refine⟨d,Ab9 hk,b,hb,?_⟩;rw[if_pos (hi.2 (h1 d hdm)),Aa5 (by omega)];exact ih (k+1) (Aa8 hk)
  exact first l 0 rfl)
 rw[<-e1];exact e2
def errS(n:Int)(l:List api_FD)(m:List api_MVD)(a b:Int):Int:=if basE n l m=0 then(if inU n.toNat a b=true then 0 else 1)else basE n l m
def Bf1{n:Int}{l:List api_FD}{m:List api_MVD}(h:basE n l m=0):0<=n/\n<=16:=by
 unfold basE at h
 split at h
 .rename_i h0;exact Atp h0
 .rename_i h0;exact absurd h h0
def or_self{a:Int}(ha:U32 a):bOr .u32 a a=a:=by
 have:=Ae7 (k:=.u32) ha.top ha.top;rw[<-ha.eq,Nat.or_self,<-ha.eq]at this;exact this
def Bhy{n:Nat}{a:Int}:inU n a 0=inU n a a:=by
 unfold inU;have:sN 0<2^n:=zX (by omega);rw[decide_eq_true this,Bool.and_true,Bool.and_self]
def q112_.sP{n:Int}{l:List api_FD}{m:List api_MVD}{a b:Int}(hl:FdOK l)(hm:Aeg m)(ha:U32 a)(hb:U32 b):q112_.C n l m (bOr .u32 a b) (errS n l m a b):=by
 obtain⟨r,h1,h2⟩:=q112_.nt n l m (bOr .u32 a b) (fun r=>r=errS n l m a b) (by
  refine⟨_,q110_.sP hl hm,?_⟩;unfold errS;by_cases h0:basE n l m=0
  .rw [if_pos h0,if_pos h0];obtain⟨q,rfl⟩:∃q:Nat,n=q:=⟨n.toNat,by have:=Bf1 h0;omega⟩
   refine⟨by omega,?_⟩;have e:=Bdt (n:=q) ha hb;rw[zK];by_cases h:inU q a b=true
   .rw [if_pos (e.2 h),if_pos h]
   .rw [if_neg (fun hh=>h (e.1 hh)),if_neg h]
  .rw [if_neg h0,if_neg h0])
 rw[<-h1];exact h2
def q112_.one{n:Int}{l:List api_FD}{m:List api_MVD}{a:Int}(hl:FdOK l)(hm:Aeg m)(ha:U32 a):q112_.C n l m a (errS n l m a 0):=by
 have:=q112_.sP (n:=n) hl hm ha ha;rw[or_self ha]at this;have e:errS n l m a a=errS n l m a 0:=by unfold errS;rw[Bhy]
 rw[e]at this;exact this
def mvL(l:List api_FD):List api_MVD:=l.map fun d=>⟨d.Lhs,d.Rhs⟩
def Boc{l:List api_FD}(h:FdOK l):Aeg (mvL l):=fun d hd=>by
 obtain⟨x,hx,rfl⟩:=zE.1 hd;exact h x hx
def q80_.sP{n:Nat}{L:List drossref09_Dep}(hn:n<=16)(hL:Anl L)(hlen:L.length<=4000000):q80_.C n L (mvL (depL n L)):=by
 obtain⟨r,h1,h2⟩:=q80_.nt n L (fun r=>r=mvL (depL n L)) (by
  refine⟨_,q79_.sP hn hL hlen,?_⟩;have hdl:(depL n L).length<=4000000:=by rw[Akv];exact hlen
  generalize depL n L=x at *;have go:∀(r:List api_FD)(k:Nat)(out:List api_MVD),x.drop k=r->out.length<=k->out++mvL r=mvL x->q80_.L1 out x (k:Int) (fun r=>r=mvL x):=by
   intro r
   induction r with
   |nil=>
    intro k out hd hk h;have:=Aap hd;apply q80_.K1;rw[if_neg (by omega)];simpa[mvL]using h
   |cons a r ih=>
    intro k out hd hk h;have hlt:=Aaq hd;apply q80_.K1;rw[if_pos (by omega)];refine⟨a,Ab9 hd,by omega,?_⟩;rw[Aa5 (by omega)];exact ih (k+1) _ (Aa8 hd) (by rw[yH];simp only[zZ,List.length_nil];omega) (by rw[List.append_assoc];exact h)
  exact go x 0 [] rfl (zQ 0) rfl)
 rw[<-h1];exact h2
def limE(n:Int)(l:List api_FD)(m:List api_MVD)(a b:Int):Int:=if basE n l m=0 then(if 8<n then 3 else if inU n.toNat a b=true then 0 else 1)else basE n l m
def q97_.sP{n:Int}{l:List api_FD}{m:List api_MVD}{a b:Int}(hl:FdOK l)(hm:Aeg m)(ha:U32 a)(hb:U32 b):q97_.C n l m a b (limE n l m a b):=by
 obtain⟨r,h1,h2⟩:=q97_.nt n l m a b (fun r=>r=limE n l m a b) (by
  refine⟨_,q110_.sP hl hm,?_⟩;unfold limE;by_cases h0:basE n l m=0
  .rw [if_pos h0,if_pos h0];obtain⟨q,rfl⟩:∃q:Nat,n=q:=⟨n.toNat,by have:=Bf1 h0;omega⟩
   by_cases h8:8<(q:Int)
   .rw [if_pos h8,if_pos h8]
   .rw [if_neg h8,if_neg h8];refine⟨_,q93_.sP ha hb,?_⟩;rw[zK]
    split<;>rfl
  .rw [if_neg h0,if_neg h0])
 rw[<-h1];exact h2
section
variable{n x:Nat}{fds:List api_FD}{mvds:List api_MVD}
def blkL(n:Nat)(fds:List api_FD)(mvds:List api_MVD)(x:Nat):List Int:=ordL (lN (blk n fds mvds x))
def Mix.blk_lt(h:Mix n fds mvds){b:Nat}(hb:b∈blk n fds mvds x):b<2^n:=(h.part (x:=x)).lt (Aok (by have:=h.n6;omega)) hb
def Mix.p32(h:Mix n fds mvds):2^n<=2^32:=zG (by omega) (by have:=h.n6;omega)
def Mix.allU(h:Mix n fds mvds):AllU (lN (blk n fds mvds x)):=fun y hy=>by
 obtain⟨b,hb,rfl⟩:=zE.1 hy;exact U32.of (zA (h.blk_lt hb) h.p32)
def Mix.blkL_mem(h:Mix n fds mvds){y:Int}:y∈blkL n fds mvds x↔∃b∈blk n fds mvds x,y=(b:Int):=by
 unfold blkL;rw[Bak h.allU];unfold lN;rw[zE];exact⟨fun⟨b,h1,h2⟩=>⟨b,h1,h2.symm⟩,fun⟨b,h1,h2⟩=>⟨b,h1,h2.symm⟩⟩
def Mix.blkL_len(h:Mix n fds mvds):(blkL n fds mvds x).length<=6:=by
 have h1:=Bil (l:=lN (blk n fds mvds x));have h2:=(h.part (x:=x)).len (Arc h.n6);rw[Abg]at h1;unfold blkL;omega
def Val(n:Nat)(fds:List api_FD)(mvds:List api_MVD):Prop:=basE (n:Int) fds mvds=0
def Awv{a b:Nat}(hv:Val n fds mvds)(ha:a<2^n)(hb:b<2^n):errS (n:Int) fds mvds (a:Int) (b:Int)=0:=by
 unfold errS;have hv:basE (n:Int) fds mvds=0:=hv;rw[if_pos hv,if_pos];unfold inU;rw[Aco,Aco,zK,decide_eq_true ha,decide_eq_true hb];rfl
def q112_.ok(h:Mix n fds mvds)(hv:Val n fds mvds)(hx:x<2^n):q112_.C n fds mvds x 0:=by
 have:=q112_.one (n:=(n:Int)) h.fok h.mok (a:=(x:Int)) (U32.of (zA hx h.p32));have e:errS (n:Int) fds mvds (x:Int) 0=0:=Awv (b:=0) hv hx (zX (by omega));rw[e]at this;exact this
def q112_.ok2(h:Mix n fds mvds)(hv:Val n fds mvds){y:Nat}(hx:x<2^n)(hy:y<2^n):q112_.C n fds mvds (bOr .u32 (x:Int) (y:Int)) 0:=by
 have:=q112_.sP (n:=(n:Int)) h.fok h.mok (a:=(x:Int)) (b:=(y:Int)) (U32.of (zA hx h.p32)) (U32.of (zA hy h.p32));rw[Awv hv hx hy]at this;exact this
def q105_.ok(h:Mix n fds mvds)(hx:x<2^n):q105_.C n (allI fds mvds) x (blkL n fds mvds x):=
 q105_.all (by have:=h.n6;omega) (zA hx h.p32) h.fok h.mok h.f64 h.m64
def Bjo(h:Mix n fds mvds){y:Nat}:(blkL n fds mvds x).all (fun b=>decide (sN b &&& y=0) || decide (Aa7 (sN b) y=0))=folX n fds mvds x y:=by
 unfold folX;rw[zL,zO,zO];constructor
 .intro hh b hb;have:=hh (b:Int) (h.blkL_mem.2 ⟨b,hb,rfl⟩)
  rwa [Aco]at this
 .intro hh z hz;obtain⟨b,hb,rfl⟩:=h.blkL_mem.1 hz;rw[Aco];exact hh b hb
def q65_.sP(h:Mix n fds mvds)(hv:Val n fds mvds){y:Nat}(hx:x<2^n)(hy:y<2^n):q65_.C n fds mvds ⟨x,y⟩ (folX n fds mvds x y,0):=by
 obtain⟨r,h1,h2⟩:=q65_.nt n fds mvds ⟨x,y⟩ (fun r=>r=(folX n fds mvds x y,0)) ⟨_,q112_.ok2 h hv hx hy,by
  rw[if_pos rfl];refine⟨_,q119_.sP h.fok h.f64 h.m64,_,q105_.ok h hx,?_⟩;have hlen:=h.blkL_len (x:=x);rw[<-Bjo h];generalize hφ:(fun r:Bool×Int=>r=((blkL n fds mvds x).all (fun b=>decide (sN b &&& y=0) || decide (Aa7 (sN b) y=0)),(0:Int)))=J;have hφ0:J ((blkL n fds mvds x).all (fun b=>decide (sN b &&& y=0) || decide (Aa7 (sN b) y=0)),0):=by rw[<-hφ]
  clear hφ;refine Akr (l:=blkL n fds mvds x) (p:=fun b=>decide (sN b &&& y=0) || decide (Aa7 (sN b) y=0)) (L:=fun i=>q65_.L1 ⟨x,y⟩ (blkL n fds mvds x) i J) (J:=fun b=>J (b,(0:Int))) ?_ ?_ hφ0
  .intro hh;apply q65_.K1;rw[if_neg (by omega)];exact hh
  .intro k a ha hk hh;obtain⟨b,hb,rfl⟩:=h.blkL_mem.1 (zB ha);have hb32:=zA (h.blk_lt hb) h.p32;have hy32:=zA hy h.p32;rw[Aco]at hh;apply q65_.K1;rw[if_pos (by omega)];refine⟨_,Ab6 ha,?_⟩;have next:q65_.L1 ⟨x,y⟩ (blkL n fds mvds x) ((k+1:Nat):Int) J->q65_.L2 ⟨x,y⟩ (blkL n fds mvds x) (k:Int) J:=fun q=>by
    apply q65_.K2;rw[Aa5 (by omega)];exact q
   show(if bAnd .u32 (b:Int) (y:Int)=0 then _ else _);rw[Adv (Ab7 hb32) (Ab7 hy32)];by_cases h1:b &&& y=0
   .rw [if_pos (by omega)];rw[if_pos (by simp[h1])]at hh;exact next hh
   .rw [if_neg (by omega)];show(if Aae .u32 (b:Int) (y:Int)=0 then _ else _);rw[Abp (Ab7 hb32) (Ab7 hy32)];by_cases h2:Aa7 b y=0
    .rw [if_pos (by omega)];rw[if_pos (by simp[h2])]at hh;exact next hh
    .rw [if_neg (by omega)];rw[if_neg (by simp[h1,h2])]at hh
     exact hh⟩
 rw[<-h1];exact h2
def Bcu{b:Nat}(hb:b<2^32):szN b=1↔∃j,j<32/\b=2^j:=by
 unfold szN;constructor
 .intro h;obtain⟨j,hj⟩:=List.length_eq_one_iff.1 h;have hjb:=(Abk hb).1 (by rw[hj];simp:j∈Aal b);refine⟨j,Ad1.1 hb j hjb,?_⟩;apply zN;intro i;rw[Acu,zL,decide_eq_true_eq,<-Abk hb,hj,zI];exact eq_comm
 .rintro ⟨j,hj,rfl⟩;have hm:∀i,i∈Aal (2^j)↔j=i:=fun i=>by rw[Abk hb,Acu,decide_eq_true_eq]
  have hs:=Afm (n:=2^j)
  match hq:Aal (2^j),hm,hs with
  |[],hm,_=>exact absurd ((hm j).2 rfl) (by simp)
  |[a],_,_=>rfl
  |a::b::l,hm,hs=>
   have h1:=(hm a).1 (by simp);have h2:=(hm b).1 (by simp);have:=(List.pairwise_cons.1 hs).1 b (by simp);omega
def detB(fds:List api_FD)(b:Nat):Bool:=decide (szN b=1)&&fds.any fun d=>decide (Aa7 (sN d.Rhs) (sN d.Lhs) &&& b≠0)
def detL(fds:List api_FD):List Int->Nat->Nat
 |[],a=>a
 |b::l,a=>detL fds l (if detB fds (sN b)=true then a ||| sN b else a)
def Azc:∀{l:List Int}{a i:Nat},(detL fds l a).testBit i=(a.testBit i || l.any fun b=>detB fds (sN b)&&(sN b).testBit i)
 |[],a,i=>by simp[detL]
 |b::l,a,i=>by
  simp only[detL];rw[Azc,yF];cases hp:detB fds (sN b)<;>simp[yD,Bool.or_assoc]
def Bjn(h:Mix n fds mvds)(hx:x<2^n):detL fds (blkL n fds mvds x) x=cloX n fds mvds x:=by
 apply zN;intro i;unfold cloX;rw[Azc,Akh,zL,zT,zH,zT,decide_eq_true_eq,decide_eq_true_eq,zV];have h32:=h.p32;constructor
 .rintro (hi|⟨z,hz,hq⟩)
  .exact ⟨Ad1.1 hx i hi,.inl hi⟩
  .obtain ⟨b,hb,rfl⟩:=h.blkL_mem.1 hz;rw[Aco,zH]at hq;obtain⟨hp,hbi⟩:=hq;have hbn:=h.blk_lt hb;unfold detB at hp;rw[zH,decide_eq_true_eq,zV]at hp;obtain⟨j,_,rfl⟩:=(Bcu (zA hbn h32)).1 hp.1;rw[Acu,decide_eq_true_eq]at hbi;subst hbi;obtain⟨d,hd,hne⟩:=hp.2;rw[decide_eq_true_eq]at hne;obtain⟨q,h1,h2⟩:=Ap9.1 hne;rw[Acu,decide_eq_true_eq]at h2;subst h2;rw[Aa9,zH,zU]at h1;exact⟨Ad1.1 hbn j (by rw[Acu];simp),.inr ⟨hb,fN d,zE.2 ⟨d,hd,rfl⟩,h1⟩⟩
 .rintro ⟨hi,hxi|⟨hb,d,hd,h1,h2⟩⟩
  .exact .inl hxi
  .obtain ⟨f,hf,rfl⟩:=zE.1 hd;refine .inr ⟨((2^i:Nat):Int),h.blkL_mem.2 ⟨_,hb,rfl⟩,?_⟩;rw[Aco,zH];refine⟨?_,by rw[Acu];simp⟩;unfold detB;rw[zH,decide_eq_true_eq,zV];refine⟨(Bcu (zA (h.blk_lt hb) h32)).2 ⟨i,by have:=h.n6;omega,rfl⟩,f,hf,?_⟩;rw[decide_eq_true_eq];exact Ap9.2 ⟨i,by rw[Aa9];unfold fN at h1 h2;simp only at h1 h2;rw[h1,h2];rfl,by rw[Acu];simp⟩
def Bbj(h:Mix n fds mvds){b:Nat}(hb:b<2^32):q8_.C fds (b:Int) (fds.any fun d=>decide (Aa7 (sN d.Rhs) (sN d.Lhs) &&& b≠0)):=by
 have hlen:=h.f64;have hone:∀d∈fds,q96_.C d (b:Int) (decide (Aa7 (sN d.Rhs) (sN d.Lhs) &&& b≠0)):=fun d hd=>by
  obtain⟨r,h1,h2⟩:=q96_.nt d (b:Int) (fun r=>r=decide (Aa7 (sN d.Rhs) (sN d.Lhs) &&& b≠0)) (by
   have hd':=h.fok d hd;have e:Aae .u32 d.Rhs d.Lhs=((Aa7 (sN d.Rhs) (sN d.Lhs):Nat):Int):=by
    conv=>lhs;rw[hd'.1.eq,hd'.2.eq]
    exact Abp hd'.2.top hd'.1.top
   rw[e,Adv (Ab7 (zY Adf hd'.2.lt)) (Ab7 hb),zL,bne_iff_ne,decide_eq_true_eq]
   omega)
  rw[<-h1];exact h2
 obtain⟨r,h1,h2⟩:=q12_.nt fds (b:Int) (fun r=>decide (0<=r)=fds.any fun d=>decide (Aa7 (sN d.Rhs) (sN d.Lhs) &&& b≠0)) (by
  have go:∀(l:List api_FD)(k:Nat),fds.drop k=l->(fds.any fun d=>decide (Aa7 (sN d.Rhs) (sN d.Lhs) &&& b≠0))=(l.any fun d=>decide (Aa7 (sN d.Rhs) (sN d.Lhs) &&& b≠0))->q12_.L1 fds (b:Int) (k:Int) (fun r=>decide (0<=r)=fds.any fun d=>decide (Aa7 (sN d.Rhs) (sN d.Lhs) &&& b≠0)):=by
   intro l
   induction l with
   |nil=>
    intro k hk he;have:=Aap hk;apply q12_.K1;rw[if_neg (by omega),he];rfl
   |cons d l ih=>
    intro k hk he;have hlt:=Aaq hk;apply q12_.K1;rw[if_pos (by omega)];refine⟨d,Ab9 hk,_,hone d (zB (Aab hk)),?_⟩;rw[yF]at he;cases hq:decide (Aa7 (sN d.Rhs) (sN d.Lhs) &&& b≠0)with
    |true=>
     rw[if_pos rfl,he,hq,Bool.true_or,decide_eq_true_eq];omega
    |false=>
     rw[if_neg (by simp),Aa5 (by omega)];rw[hq,yG]at he;exact ih (k+1) (Aa8 hk) he
  exact go fds 0 rfl rfl)
 obtain⟨q,h3,h4⟩:=q8_.nt fds (b:Int) (fun q=>q=fds.any fun d=>decide (Aa7 (sN d.Rhs) (sN d.Lhs) &&& b≠0)) ⟨r,h2,h1⟩;rw[<-h3];exact h4
def q113_.sP(h:Mix n fds mvds)(hv:Val n fds mvds)(hx:x<2^n):q113_.C n fds mvds x (((cloX n fds mvds x:Nat):Int),0):=by
 obtain⟨r,h1,h2⟩:=q113_.nt n fds mvds x (fun r=>r=(((cloX n fds mvds x:Nat):Int),0)) ⟨_,q112_.ok h hv hx,by
  rw[if_pos rfl];refine⟨_,q119_.sP h.fok h.f64 h.m64,_,q105_.ok h hx,?_⟩;rw[<-Bjn h hx];have hlen:=h.blkL_len (x:=x);have h32:=h.p32;have go:∀(l:List Int)(k a:Nat),(blkL n fds mvds x).drop k=l->a<2^32->detL fds l a=detL fds (blkL n fds mvds x) x->q113_.L1 fds (a:Int) (blkL n fds mvds x) (k:Int) (fun r=>r=(((detL fds (blkL n fds mvds x) x:Nat):Int),0)):=by
   intro l
   induction l with
   |nil=>
    intro k a hk ha he;have:=Aap hk;apply q113_.K1;rw[if_neg (by omega),<-he];rfl
   |cons z l ih=>
    intro k a hk ha he;have hlt:=Aaq hk;obtain⟨b,hb,rfl⟩:=h.blkL_mem.1 (zB (Aab hk));have hb32:=zA (h.blk_lt hb) h32;have next:∀a:Nat,a<2^32->detL fds l a=detL fds (blkL n fds mvds x) x->q113_.L2 fds (a:Int) (blkL n fds mvds x) (k:Int) (fun r=>r=(((detL fds (blkL n fds mvds x) x:Nat):Int),0)):=fun a ha he=>by
     apply q113_.K2;rw[Aa5 (by omega)];exact ih (k+1) a (Aa8 hk) ha he
    simp only[detL,Aco]at he;apply q113_.K1;rw[if_pos (by omega)];have hs:=q102_.sP (U32.of hb32);rw[Aco]at hs;refine⟨_,Ab9 hk,_,hs,?_⟩;by_cases h1:szN b=1
    .rw [if_pos (by omega)];refine⟨_,Bbj h hb32,?_⟩;cases hq:(fds.any fun d=>decide (Aa7 (sN d.Rhs) (sN d.Lhs) &&& b≠0))with
     |true=>
      rw[if_pos rfl,Ae7 (Ab7 ha) (Ab7 hb32)];rw[if_pos (by unfold detB;rw[hq,decide_eq_true h1];rfl)]at he;exact next _ (zR ha hb32) he
     |false=>
      rw[if_neg (by simp)];rw[if_neg (by unfold detB;rw[hq];simp)]at he;exact next a ha he
    .rw [if_neg (by omega)];rw[if_neg (by unfold detB;simp[h1])]at he;exact next a ha he
  exact go _ 0 x rfl (zA hx h32) rfl⟩
 rw[<-h1];exact h2
def q81_.sP(h:Mix n fds mvds)(hv:Val n fds mvds){y:Nat}(hx:x<2^n)(hy:y<2^n):q81_.C n fds mvds ⟨x,y⟩ (decide (Aa7 y (cloX n fds mvds x)=0),0):=by
 obtain⟨r,h1,h2⟩:=q81_.nt n fds mvds ⟨x,y⟩ (fun r=>r=(decide (Aa7 y (cloX n fds mvds x)=0),0)) ⟨_,q112_.ok2 h hv hx hy,by
  rw[if_pos rfl];refine⟨_,q113_.sP h hv hx,?_⟩;show((Aae .u32 (y:Int) ((cloX n fds mvds x:Nat):Int)==0),(0:Int))=_;rw[Abp (Ab7 (zA hy h.p32)) (Ab7 (zA Bjk h.p32))];congr 1
  rw[zL,beq_iff_eq,decide_eq_true_eq];omega⟩
 rw[<-h1];exact h2
end
def Bhq{n:Nat}{L:List drossref09_Dep}(hn:n<=6)(hl:L.length<=6):fdsE (n:Int) (depL n L)=0:=by
 have:=Bm7 (Bhk (n:=n) (L:=L) hn hl);exact this.2.2
def q98_.exact{x:drossref13_Mixed}(hN:0<=x.D.N/\x.D.N<256)(hL:Anl x.D.L)(hM:Anl x.M)(h1:x.D.L.length<=4000000)(h2:x.M.length<=4000000):q98_.C x (((depN x.D.N:Nat):Int),depL (depN x.D.N) x.D.L,mvL (depL (depN x.D.N) x.M),decide (x.D.L.length<=6/\x.M.length<=4)):=by
 obtain⟨r,e1,e2⟩:=q98_.nt x (fun r=>r=(((depN x.D.N:Nat):Int),depL (depN x.D.N) x.D.L,mvL (depL (depN x.D.N) x.M),decide (x.D.L.length<=6/\x.M.length<=4))) (by
  refine⟨_,q95_.sP hN hL h1,_,q80_.sP (by have:=Ar0 (N:=x.D.N);omega) hM h2,?_⟩;by_cases h6:x.D.L.length<=6
  .rw [if_pos (by show decide _=true;rw[decide_eq_true_eq];omega)];congr 3;rw[zL,decide_eq_true_eq,decide_eq_true_eq];omega
  .rw [if_neg (by show ¬decide _=true;rw[decide_eq_true_eq];omega)];congr 3
   rw[eq_comm,decide_eq_false_iff_not];omega)
 rw[<-e1];exact e2
def Bob{n:Nat}{L M:List drossref09_Dep}(hn:n<=6)(hl:L.length<=6)(hm:M.length<=4):Mix n (depL n L) (mvL (depL n M)) where
 n6:=hn
 fok:=Bcd (by omega)
 mok:=Boc (Bcd (by omega))
 f64:=by rw[Akv];omega
 m64:=by unfold mvL;rw[zW,Akv];omega
def Bok{n:Nat}{L M:List drossref09_Dep}(hn:n<=6)(hl:L.length<=6)(hm:M.length<=4):Val n (depL n L) (mvL (depL n M)):=by
 unfold Val basE;rw[if_pos (Bhq hn hl),if_neg (by unfold mvL;rw[zW,Akv];omega),if_pos];rw[zO];intro d hd;obtain⟨f,hf,rfl⟩:=zE.1 hd;obtain⟨z,_,rfl⟩:=zE.1 hf;unfold inU;rw[Aco,Aco,zK,decide_eq_true Ahq,decide_eq_true Ahq];rfl
def q86_.sP{R:List Nat}{x:Nat}(hl:R.length<=1000000):q86_.C (x:Int) (lN R) (decide (x ∉ R),lN (if x∈R then R else R++[x])):=by
 obtain⟨r,h1,h2⟩:=q86_.nt (x:Int) (lN R) (fun r=>r=(decide (x ∉ R),lN (if x∈R then R else R++[x]))) (by
  refine⟨_,Bad (by rw[Abg];omega),?_⟩;by_cases h:x∈R
  .rw [if_pos (by rw[decide_eq_true_eq];exact Apx.2 h)];simp[h]
  .rw [if_neg (by rw[decide_eq_true_eq];exact fun hh=>h (Apx.1 hh))]
   exact⟨by rw[Abg];omega,by simp[h,lN]⟩)
 rw[<-h1];exact h2
def At6(d:Nat×Nat)(R:List Nat)(D:Nat):Prop:=∀i,D.testBit i=true↔d.2.testBit i=true/\∃r s,r∈R/\s∈R/\Aax d.1 r s/\r.testBit i≠s.testBit i
section
variable{n x:Nat}{fds:List api_FD}{mvds:List api_MVD}
def At6.done{d:Nat×Nat}{R:List Nat}(h:At6 d R 0):Ah5 d R:=fun r s hr hs ha i hi=>by
 have:=h i;rw[zF]at this;cases hq:decide (r.testBit i=s.testBit i)with
 |true=>exact of_decide_eq_true hq
 |false=>exact absurd (this.2 ⟨hi,r,s,hr,hs,ha,of_decide_eq_false hq⟩) (by simp)
def Acd.gone{fds mvds:List (Nat×Nat)}{bs:List Nat}{rest live:Nat}(hp:BPart rest bs)(hf:BFin (Ai0 fds mvds) bs){d:Nat×Nat}(hd:d∈fds)(hd32:d.2<2^32){R A:List Nat}(h:Acd fds bs rest live R){D:Nat}(hD:At6 d R D)(h0:D≠0)(hn:A.Nodup)(hA:∀u,u∈A↔∃q∈R,u=Aa7 q D):∃live',live'<live/\Acd fds bs rest live' A:=by
 refine⟨Aa7 live D,?_,hn,?_⟩
 .refine Nat.lt_of_le_of_ne Adf fun he=>?_;obtain⟨i,hi⟩:=Bae h0;obtain⟨_,r,s,hr,hs,_,hne⟩:=(hD i).1 hi;have hl:live.testBit i=true:=by
   cases hq:r.testBit i with
   |true=>exact h.2.sub r hr i hq
   |false=>
    cases hq2:s.testBit i with
    |true=>exact h.2.sub s hs i hq2
    |false=>rw[hq,hq2]at hne;exact absurd rfl hne
  have:=congrArg (fun x=>x.testBit i) he;simp only[Aa9,hi,hl]at this;cases this
 .have:=h.2.fd hp hf hd hd32 fun i hi=>(hD i).1 hi;have e:(fun u=>u∈A)=fun u=>∃q,q∈R/\u=Aa7 q D:=by funext u;rw[hA u]
  rw[e];exact this
namespace q106_
def puts{R:List Nat}{D:Nat}(hD:D<2^32)(hR:∀r∈R,r<2^32)(hl:R.length<=1000){i:Nat}{J:List Int->Prop}(h:∀A:List Nat,A.Nodup->(∀u,u∈A↔∃q∈R,u=Aa7 q D)->L9 fds mvds (lN A) true (i:Int) J):
  ∀(r:List Nat)(k:Nat)(A:List Nat),R.drop k=r->A.length<=k->A.Nodup->(∀u,u∈A↔∃q∈R.take k,u=Aa7 q D)->L6 fds mvds (lN A) (D:Int) (lN R) (i:Int) (R.length:Int) (k:Int) J:=by
 intro r
 induction r with
 |nil=>
  intro k A hd hk hn hm;have:=Aap hd;apply K6;rw[if_neg (by omega)];refine h A hn fun u=>?_;rw[hm u,yB this]
 |cons a r ih=>
  intro k A hd hk hn hm;have hlt:=Aaq hd;have ha:=Aab hd;have ha32:=hR a (zB ha);apply K6;rw[if_pos (by omega)];refine⟨_,Afp ha,?_⟩;rw[Abp (Ab7 ha32) (Ab7 hD)];refine⟨_,q86_.sP (by omega),?_⟩;rw[Aa5 (by omega)];refine ih (k+1) _ (Aa8 hd) ?_ ?_ ?_
  .split
   .omega
   .rw [yH,List.length_singleton];omega
  .split
   .exact hn
   .rename_i hni;rw[List.nodup_append];exact⟨hn,by simp,fun x hx y hy=>by simp only[zI]at hy;subst hy;rintro rfl;exact hni hx⟩
  .intro u
   split
   .rename_i hin;rw[hm u];constructor
    .rintro ⟨q,h1,h2⟩;exact⟨q,(Aeq ha).2 (.inl h1),h2⟩
    .rintro ⟨q,h1,rfl⟩;rcases(Aeq ha).1 h1 with h1|rfl
     .exact ⟨q,h1,rfl⟩
     .exact (hm _).1 hin
   .rw [List.mem_append,hm u,zI];constructor
    .rintro (⟨q,h1,h2⟩|rfl)
     .exact ⟨q,(Aeq ha).2 (.inl h1),h2⟩
     .exact ⟨a,(Aeq ha).2 (.inr rfl),rfl⟩
    .rintro ⟨q,h1,rfl⟩;rcases(Aeq ha).1 h1 with h1|rfl
     .exact .inl ⟨q,h1,rfl⟩
     .exact .inr rfl
def GoneTo(d:Nat×Nat)(R:List Nat)(i j:Nat)(D:Nat):Prop:=∀b,D.testBit b=true↔d.2.testBit b=true/\∃(p q r s:Nat),(p<i∨(p=i/\q<j))/\R[p]?=some r/\R[q]?=some s/\Aax d.1 r s/\r.testBit b≠s.testBit b
def gones{R:List Nat}{d:api_FD}(hd:U32 d.Lhs/\U32 d.Rhs)(hR:∀r∈R,r<2^32)(hl:R.length<=1000){ch:Bool}{f:Nat}{J:List Int->Prop}(h:∀D:Nat,D<2^32->At6 (fN d) R D->(if(D:Int)=0 then L9 fds mvds (lN R) ch (f:Int) J else L6 fds mvds [] (D:Int) (lN R) (f:Int) (R.length:Int) 0 J)):
  ∀(l:List Nat)(i D:Nat),R.drop i=l->D<2^32->GoneTo (fN d) R i 0 D->L3 fds mvds (lN R) ch d (D:Int) (f:Int) (R.length:Int) (i:Int) J:=by
 intro l
 induction l with
 |nil=>
  intro i D hi hD hg;have hge:=Aap hi;apply K3;rw[if_neg (by omega)];have:=h D hD fun b=>by
   rw[hg b];refine and_congr_right fun _=>?_;constructor
   .rintro ⟨p,q,r,s,_,h1,h2,h3,h4⟩;exact⟨r,s,zB h1,zB h2,h3,h4⟩
   .rintro ⟨r,s,h1,h2,h3,h4⟩;obtain⟨p,hp⟩:=zD h1;obtain⟨q,hq⟩:=zD h2;exact⟨p,q,r,s,.inl (by have:=(zC.1 hp).1;omega),hp,hq,h3,h4⟩
  rw[Abg];exact this
 |cons a l ih=>
  intro i D hi hD hg;have hlt:=Aaq hi;have ha:=Aab hi;have ham:=zB ha;apply K3;rw[if_pos (by omega)];refine⟨_,Afp ha,?_⟩;have inner:∀(l2:List Nat)(k D:Nat),R.drop k=l2->D<2^32->GoneTo (fN d) R i k D->L5 fds mvds (lN R) ch d (D:Int) (a:Int) (f:Int) (R.length:Int) (i:Int) (R.length:Int) (k:Int) J:=by
   intro l2
   induction l2 with
   |nil=>
    intro k D hk hD hg;have hge:=Aap hk;apply K5;rw[if_neg (by omega),Aa5 (by omega)];refine ih (i+1) D (Aa8 hi) hD fun b=>?_;rw[hg b];refine and_congr_right fun _=>?_;constructor
    .rintro ⟨p,q,r,s,h0,h1⟩;exact⟨p,q,r,s,.inl (by omega),h1⟩
    .rintro ⟨p,q,r,s,h0,h1,h2,h3⟩;refine⟨p,q,r,s,?_,h1,h2,h3⟩;have:=(zC.1 h2).1;omega
   |cons c l2 ih2=>
    intro k D hk hD hg;have hklt:=Aaq hk;have hc:=Aab hk;have hcm:=zB hc;apply K5;rw[if_pos (by omega)];refine⟨_,Afp hc,?_⟩;by_cases h0:Aax (sN d.Lhs) a c
    .rw [if_pos ((Ah6 (hR a ham) (hR c hcm) hd.1).2 h0),Bb4 (hR a ham) (hR c hcm) hd.2];have hx:(a ^^^ c) &&& sN d.Rhs<2^32:=zY yI hd.2.lt;rw[Ae7 (Ab7 hD) (Ab7 hx)];apply K8;rw[Aa5 (by omega)];refine ih2 (k+1) _ (Aa8 hk) (zR hD hx) fun b=>?_;rw[yD,zT,hg b,Nat.testBit_and,zH,Nat.testBit_xor];constructor
     .rintro (⟨h1,p,q,r,s,h2,h3⟩|⟨h1,h2⟩)
      .exact ⟨h1,p,q,r,s,by omega,h3⟩
      .refine ⟨h2,i,k,a,c,.inr ⟨rfl,by omega⟩,ha,hc,h0,fun he=>?_⟩;rw[he]at h1;simp at h1
     .rintro ⟨h1,p,q,r,s,h2,h3,h4,h5,h6⟩;by_cases hpq:p=i/\q=k
      .obtain ⟨rfl,rfl⟩:=hpq;rw[ha]at h3;cases h3;rw[hc]at h4;cases h4;refine .inr ⟨?_,h1⟩;cases hq:a.testBit b<;>cases hq2:c.testBit b<;>simp_all
      .exact .inl ⟨h1,p,q,r,s,by omega,h3,h4,h5,h6⟩
    .rw [if_neg fun hh=>h0 ((Ah6 (hR a ham) (hR c hcm) hd.1).1 hh)];apply K8;rw[Aa5 (by omega)];refine ih2 (k+1) D (Aa8 hk) hD fun b=>?_;rw[hg b];refine and_congr_right fun _=>?_;constructor
     .rintro ⟨p,q,r,s,h2,h3⟩;exact⟨p,q,r,s,by omega,h3⟩
     .rintro ⟨p,q,r,s,h2,h3,h4,h5,h6⟩;by_cases hpq:p=i/\q=k
      .obtain ⟨rfl,rfl⟩:=hpq;rw[ha]at h3;cases h3;rw[hc]at h4;cases h4;exact absurd h5 h0
      .exact ⟨p,q,r,s,by omega,h3,h4,h5,h6⟩
  rw[Abg];refine inner R 0 D rfl hD fun b=>?_;rw[hg b]
def mvds1{R0:List Nat}{m:api_MVD}(hd:U32 m.Lhs/\U32 m.Rhs){I:List Nat->Prop}(hI:Grows (mN m) I){j:Nat}{ch0:Bool}{J:List Int->Prop}(hφ:∀(ch:Bool)(A:List Nat),I A->R0.length<=A.length->(if ch=true then ch0=true∨R0.length<A.length else ch0=false/\A=R0/\Akq (mN m) R0)->L4 fds mvds (lN A) ch (IntKind.wrap .i64 ((j:Int)+1)) J):
  ∀(l:List Nat)(i:Nat)(R:List Nat)(ch:Bool),R0.drop i=l->I R->(∀r∈R0,r∈R)->R0.length<=R.length->(if ch=true then ch0=true∨R0.length<R.length else ch0=false/\R=R0/\∀p r s,p<i->R0[p]?=some r->s∈R0->Aax (mN m).1 r s->mixR (mN m) r s∈R0) ->
   L7 fds mvds (lN R) ch m (j:Int) (lN R0) (R0.length:Int) (i:Int) J:=by
 intro l
 induction l with
 |nil=>
  intro i R ch hi hR hsub hlen hch;have hge:=Aap hi;apply K7;rw[if_neg (by omega)];refine hφ ch R hR hlen ?_;cases ch with
  |true=>simpa using hch
  |false=>
   simp only[zM,if_false]at hch⊢;obtain⟨h1,h2,h3⟩:=hch;refine⟨h1,h2,fun r s hr hs=>?_⟩;obtain⟨p,hp⟩:=zD hr;exact h3 p r s (by have:=(zC.1 hp).1;omega) hp hs
 |cons a l ih=>
  intro i R1 ch1 hi hR1 hsub1 hlen1 hch1;have hlt:=Aaq hi;have ha:=Aab hi;have ham:=zB ha;have h64:=hI.len R1 hR1;apply K7;rw[if_pos (by omega)];refine⟨_,Afp ha,by rw[Abg];omega,?_⟩;have inner:∀(l2:List Nat)(k:Nat)(R:List Nat)(ch:Bool),R1.drop k=l2->I R->(∀r∈R1,r∈R)->R0.length<=R.length ->
    (if ch=true then ch0=true∨R0.length<R.length else ch1=false/\R=R1/\∀q s,q<k->R1[q]?=some s->Aax (mN m).1 a s->mixR (mN m) a s∈R1) ->
    L10 fds mvds (lN R) ch m (a:Int) (j:Int) (lN R0) (R0.length:Int) (i:Int) (lN R1) (R1.length:Int) (k:Int) J:=by
   intro l2
   induction l2 with
   |nil=>
    intro k R ch hk hR hsub hlen hch;have hge:=Aap hk;apply K10;rw[if_neg (by omega),Aa5 (by omega)];refine ih (i+1) R ch (Aa8 hi) hR (fun r hr=>hsub r (hsub1 r hr)) hlen ?_;cases ch with
    |true=>simpa using hch
    |false=>
     simp only[zM,if_false]at hch⊢;obtain⟨rfl,rfl,h3⟩:=hch;simp only[zM,if_false]at hch1;obtain⟨c1,rfl,c3⟩:=hch1;refine⟨c1,rfl,fun p r s hp hr hs=>?_⟩;by_cases hpi:p=i
     .subst hpi;rw[ha]at hr;cases hr;obtain⟨q,hq⟩:=zD hs;exact h3 q s (by have:=(zC.1 hq).1;omega) hq
     .exact c3 p r s (by omega) hr hs
   |cons c l2 ih2=>
    intro k R ch hk hR hsub hlen hch;have hklt:=Aaq hk;have hc:=Aab hk;have hcm:=zB hc;have hx32:=hI.lt R hR a (hsub a (hsub1 a ham));have hy32:=hI.lt R hR c (hsub c hcm);have hl64:=hI.len R hR;have stay:(Aax (mN m).1 a c->mixR (mN m) a c∈R)->L11 fds mvds (lN R) ch m (a:Int) (j:Int) (lN R0) (R0.length:Int) (i:Int) (lN R1) (R1.length:Int) (k:Int) J:=fun hn=>by
     apply K11;rw[Aa5 (by omega)];refine ih2 (k+1) R ch (Aa8 hk) hR hsub hlen ?_;cases ch with
     |true=>simpa using hch
     |false=>
      simp only[zM,if_false]at hch⊢;obtain⟨h1,rfl,h3⟩:=hch;refine⟨h1,rfl,fun q s hq hs=>?_⟩;by_cases hqk:q=k
      .subst hqk;rw[hc]at hs;cases hs;exact hn
      .exact h3 q s (by omega) hs
    apply K10;rw[if_pos (by omega)];refine⟨_,Afp hc,?_⟩;by_cases h0:Aax (sN m.Lhs) a c
    .rw [if_pos ((Ah6 hx32 hy32 hd.1).2 h0),mixI hd.1 hd.2 hx32 hy32];refine⟨_,q86_.sP (by omega),?_⟩;by_cases hin:mixR (sN m.Lhs,sN m.Rhs) a c∈R
     .rw [if_neg (by simp[hin])];simp only[if_pos hin];exact stay fun _=>hin
     .rw [if_pos (by simp[hin])];simp only[if_neg hin];have hR':=hI.add R a c hR (hsub a (hsub1 a ham)) (hsub c hcm) h0 hin;rw[show(mN m)=(sN m.Lhs,sN m.Rhs)from rfl]at hR';apply K11;rw[Aa5 (by omega)];have hlen':(R++[mixR (sN m.Lhs,sN m.Rhs) a c]).length=R.length+1:=by simp
      refine ih2 (k+1) _ true (Aa8 hk) hR' (fun r hr=>List.mem_append_left _ (hsub r hr)) (by omega) ?_;rw[if_pos rfl];exact .inr (by omega)
    .rw [if_neg fun hh=>h0 ((Ah6 hx32 hy32 hd.1).1 hh)];exact stay fun hn=>absurd hn h0
  rw[Abg];refine inner R1 0 R1 ch1 rfl hR1 (fun r hr=>hr) hlen1 ?_;cases ch1 with
  |true=>simpa using hch1
  |false=>
   simp only[zM,if_false];exact⟨trivial,trivial,fun q s hq=>absurd hq (zP q)⟩
def loop(H:Mix n fds mvds){J:List Int->Prop}(hφ:∀live R,Chased n fds mvds x live R->J (lN R)):
  ∀(μ live:Nat)(R:List Nat),Acd (fds.map fN) (blk n fds mvds x) (Acn n x) live R->Aby live R<=μ->L1 fds mvds (lN R) true J:=by
 have hp:=H.part (x:=x);have hf:=H.fin (x:=x);have hr6:=Arc (x:=x) H.n6;intro μ
 induction μ using yA with
 |_ μ ihμ=>
 intro live R hR hμ;have C4:∀(l:List api_MVD)(j:Nat),mvds.drop j=l->∀(live:Nat)(R:List Nat)(ch:Bool),Acd (fds.map fN) (blk n fds mvds x) (Acn n x) live R->Aby live R<=μ->(ch=true->Aby live R<μ) ->
   (ch=false->(∀d∈fds,Ah5 (fN d) R)/\∀(q:Nat)(m:api_MVD),q<j->mvds[q]?=some m->Akq (mN m) R)->L4 fds mvds (lN R) ch (j:Int) J:=by
  intro l
  induction l with
  |nil=>
   intro j hj live R ch hR hμ hch hno;have:=Aap hj;apply K4;rw[if_neg (by omega)];cases ch with
   |true=>exact ihμ _ (hch rfl) live R hR (zQ _)
   |false=>
    apply K1;rw[if_neg (by simp)];obtain⟨h1,h2⟩:=hno rfl;refine hφ live R ⟨hR,Awk h1 fun m hm=>?_⟩;obtain⟨q,hq⟩:=zD hm;exact h2 q m (by have:=(zC.1 hq).1;omega) hq
  |cons m l ih=>
   intro j hj live R ch hR hμ hch hno;have hlt:=Aaq hj;have hm:=Aab hj;have hmm:=zB hm;have h64:=H.m64;have hRl:=hR.len hr6;apply K4;rw[if_pos (by omega)];refine⟨m,Ab9 hj,by rw[Abg];omega,?_⟩;have hg:=Acd.grows (live:=live) hp hf hr6 (m:=mN m) (zE.2 ⟨m,hmm,rfl⟩);rw[Abg];refine mvds1 (H.mok m hmm) hg (ch0:=ch) (fun ch' A hA hle hc=>?_) R 0 R ch rfl hR (fun r hr=>hr) (zQ _) ?_
   .rw [Aa5 (by omega)];have hAl:=hA.len hr6;have hle2:Aby live A<=Aby live R:=by unfold Aby;omega
    cases ch' with
    |true=>
     rw[if_pos rfl]at hc;refine ih (j+1) (Aa8 hj) live A true hA (by omega) (fun _=>?_) (fun h=>by cases h);rcases hc with hc|hc
     .have:=hch hc;omega
     .have:Aby live A<Aby live R:=by unfold Aby;omega
      omega
    |false=>
     simp only[zM,if_false]at hc;obtain⟨c1,rfl,c3⟩:=hc;refine ih (j+1) (Aa8 hj) live A false hA hμ (fun h=>by cases h) fun _=>⟨(hno c1).1,fun q m' hq hm'=>?_⟩
     by_cases hqj:q=j
     .subst hqj;rw[hm]at hm';cases hm';exact c3
     .exact (hno c1).2 q m' (by omega) hm'
   .cases ch with
    |true=>simp
    |false=>
     simp only[zM,if_false];exact⟨trivial,trivial,fun p r s hp=>absurd hp (zP p)⟩
 have C2:∀(l:List api_FD)(i:Nat),fds.drop i=l->∀(live:Nat)(R:List Nat)(ch:Bool),Acd (fds.map fN) (blk n fds mvds x) (Acn n x) live R->Aby live R<=μ->(ch=true->Aby live R<μ) ->
   (ch=false->∀(q:Nat)(d:api_FD),q<i->fds[q]?=some d->Ah5 (fN d) R)->L2 fds mvds (lN R) ch (i:Int) J:=by
  intro l
  induction l with
  |nil=>
   intro i hi live R ch hR hμ hch hno;have:=Aap hi;apply K2;rw[if_neg (by omega)];refine C4 mvds 0 rfl live R ch hR hμ hch fun h=>⟨fun d hd=>?_,fun q m hq=>absurd hq (zP q)⟩
   obtain⟨q,hq⟩:=zD hd;exact hno h q d (by have:=(zC.1 hq).1;omega) hq
  |cons d l ih=>
   intro i hi live R ch hR hμ hch hno;have hlt:=Aaq hi;have hd:=Aab hi;have hdm:=zB hd;have h64:=H.f64;have hRl:=hR.len hr6;have hR32:∀r∈R,r<2^32:=fun r hr=>zA (hR.lt hr6 hr) (by decide);apply K2;rw[if_pos (by omega)];refine⟨d,Ab9 hi,?_⟩;rw[Abg];refine gones (H.fok d hdm) hR32 (by omega) (fun D hD hg=>?_) R 0 0 rfl (by omega) fun b=>?_
   .by_cases h0:D=0
    .subst h0;rw[if_pos (show((0:Nat):Int)=0 by omega)];apply K9;rw[Aa5 (by omega)];refine ih (i+1) (Aa8 hi) live R ch hR hμ hch fun h q d' hq hd'=>?_;by_cases hqi:q=i
     .subst hqi;rw[hd]at hd';cases hd';exact hg.done
     .exact hno h q d' (by omega) hd'
    .rw [if_neg (by omega)];refine puts hD hR32 (by omega) (fun A a1 a2=>?_) R 0 [] rfl (zQ 0) List.nodup_nil fun u=>by simp
     obtain⟨live',hl',hA'⟩:=hR.gone hp hf (zE.2 ⟨d,hdm,rfl⟩) (H.fok d hdm).2.lt hg h0 a1 a2;have hAl:=hA'.len hr6;have hlt2:Aby live' A<Aby live R:=by
      unfold Aby;have:(live'+1)*65<=live*65:=yE _ hl';omega
     apply K9;rw[Aa5 (by omega)];exact ih (i+1) (Aa8 hi) live' A true hA' (by omega) (fun _=>by omega) (fun h=>by cases h)
   .rw [zF];constructor
    .intro h;cases h
    .rintro ⟨_,p,q,r,s,h1,_⟩;omega
 apply K1;rw[if_pos rfl];exact C2 fds 0 rfl live R false hR hμ (fun h=>by cases h) (fun _ q d hq=>absurd hq (zP q))
def sP(H:Mix n fds mvds)(hx:x<2^32):∃live R,Chased n fds mvds x live R/\C n fds mvds x (lN R):=by
 have hn:=H.n6;obtain⟨r,⟨live,R,h1,rfl⟩,h2⟩:=nt n fds mvds x (fun r=>∃live R,Chased n fds mvds x live R/\r=lN R) (by
  refine⟨by omega,?_⟩;rw[Asu (by omega),Abp (Ab7 (Bao (by omega))) (Ab7 hx)];have:=q86_.sP (R:=[0]) (x:=Aa7 (2^n-1) x) (by decide);refine⟨_,this,?_⟩;have hR0:Acd (fds.map fN) (blk n fds mvds x) (Acn n x) (Acn n x) (if Aa7 (2^n-1) x∈[0]then[0]else[0]++[Aa7 (2^n-1) x]):=by
   have hmem:∀u,u∈(if Aa7 (2^n-1) x∈[0]then[0]else[0]++[Aa7 (2^n-1) x])↔u=0∨u=Acn n x:=by
    intro u;unfold Acn
    split
    .rename_i h;simp only[zI]at h⊢;rw[h];simp
    .simp
   refine⟨?_,?_⟩
   .split
    .simp
    .rename_i h;simp only[zI]at h;simp[Ne.symm h]
   .constructor
    .exact (hmem _).2 (.inl rfl)
    .exact (hmem _).2 (.inr rfl)
    .intro r hr i hi;rcases(hmem r).1 hr with rfl|rfl
     .rw [zF]at hi;cases hi
     .exact hi
    .exact fun i hi=>hi
    .intro r hr b hb;rcases(hmem r).1 hr with rfl|rfl
     .exact .inl fun i _ _=>zF i
     .exact .inr fun i _ h=>h
    .intro i h1 h2;rw[h1]at h2;cases h2
  exact loop H (fun live R h=>⟨live,R,h,rfl⟩) _ _ _ hR0 (zQ _))
 exact⟨live,R,h1,h2⟩
end q106_
end
section
variable{n x:Nat}{fds:List api_FD}{mvds:List api_MVD}
def Bje{n:Nat}(h:basE (n:Int) fds mvds=0):FdIn n fds/\∀m∈mvds,inU n m.Lhs m.Rhs=true:=by
 unfold basE at h
 split at h
 .rename_i h0;have h1:=Bjs h0;rw[zK]at h1;refine⟨h1,?_⟩
  split at h
  .cases h
  .split at h
   .rename_i h2;rw[zO]at h2;intro m hm;have:=h2 m hm
    rwa [zK]at this
   .cases h
 .rename_i h0;exact absurd h h0
def Ba7{a b:Nat}(h:Mix n fds mvds)(hv:Val n fds mvds)(ha:a<2^n)(hb:b<2^n):limE (n:Int) fds mvds (a:Int) (b:Int)=0:=by
 have hn:=h.n6;unfold limE;have hv:basE (n:Int) fds mvds=0:=hv;rw[if_pos hv,if_neg (by omega),if_pos];unfold inU;rw[Aco,Aco,zK,decide_eq_true ha,decide_eq_true hb];rfl
def Chased.right(h:Mix n fds mvds)(hv:Val n fds mvds){live:Nat}{R:List Nat}(hc:Chased n fds mvds x live R):(∀d∈fds,SatP (bltT n R) (sN d.Lhs) (sN d.Rhs))/\∀m∈mvds,inU (bltT n R).Attrs.length m.Lhs m.Rhs=true/\MvP (bltT n R) (sN m.Lhs) (sN m.Rhs):=by
 have hn:=h.n6;have hlen:=hc.len hn;obtain⟨v1,v2⟩:=Bje hv;refine⟨fun d hd=>?_,fun m hm=>?_⟩
 .rw [Az4 (by omega) (by omega) (v1 d hd).1 (v1 d hd).2];exact fun u v hu hv' ha=>hc.done.fd (fN d) (zE.2 ⟨d,hd,rfl⟩) u v hu hv' ha
 .have hin:=v2 m hm;refine⟨by rw[Ago (by omega)];exact hin,?_⟩;unfold inU at hin;rw[zH,decide_eq_true_eq,decide_eq_true_eq]at hin;exact Bjh (m:=mN m) (by omega) hin.1 hin.2 fun u v hu hv' ha=>hc.done.mv (mN m) (zE.2 ⟨m,hm,rfl⟩) u v hu hv' ha
def Chased.not_fd(h:Mix n fds mvds){y live:Nat}{R:List Nat}(hx:x<2^n)(hy:y<2^n)(hc:Chased n fds mvds x live R)(hno:¬Aa7 y (cloX n fds mvds x)=0):¬SatP (bltT n R) x y:=by
 have hn:=h.n6;have hlen:=hc.len hn;rw[Az4 (by omega) (by omega) hx hy];intro hs;refine hno (Afi.2 fun i hi=>?_);have hag:Aax x live 0:=fun j hj=>by
  rw[zF];cases hq:live.testBit j with
  |false=>rfl
  |true=>
   have:=hc.rows.2.lsub j hq;unfold Acn at this;rw[Aa9,hj]at this;simp at this
 have:=hs live 0 hc.rows.2.top hc.rows.2.zero hag i hi;rw[zF]at this;have hin:=Ad1.1 hy i hi;rw[<-hc.clo h hx,Aa9,zS,this,decide_eq_true hin];rfl
def q107_.sP(h:Mix n fds mvds)(hv:Val n fds mvds){y:Nat}(hx:x<2^n)(hy:y<2^n):(Aa7 y (cloX n fds mvds x)=0/\q107_.C n fds mvds ⟨x,y⟩ (Ayh,10))∨(¬Aa7 y (cloX n fds mvds x)=0/\∃live R,Chased n fds mvds x live R/\q107_.C n fds mvds ⟨x,y⟩ (bltT n R,0)):=by
 have hn:=h.n6;have h32:=h.p32;obtain⟨live,R,hc,hC⟩:=q106_.sP (x:=x) h (zA hx h32);have hlen:=hc.len hn;have hlim:=q97_.sP (n:=(n:Int)) h.fok h.mok (a:=(x:Int)) (b:=(y:Int)) (U32.of (zA hx h32)) (U32.of (zA hy h32));rw[Ba7 h hv hx hy]at hlim;obtain⟨r,h1,h2⟩:=q107_.nt n fds mvds ⟨x,y⟩ (fun r=>r=if Aa7 y (cloX n fds mvds x)=0 then(Ayh,10)else(bltT n R,0)) (by
  refine⟨_,hlim,?_⟩;rw[if_pos rfl];refine⟨_,q81_.sP h hv hx hy,?_⟩;by_cases h0:Aa7 y (cloX n fds mvds x)=0
  .rw [if_pos (decide_eq_true h0),if_pos h0];rfl
  .rw [if_neg (by simpa using h0),if_neg h0]
   exact⟨_,hC,_,q103_.all (by omega) (fun r hr=>zA (hc.lt hn hr) h32) (by omega),rfl⟩)
 by_cases h0:Aa7 y (cloX n fds mvds x)=0
 .rw [if_pos h0]at h1;rw[h1]at h2;exact .inl ⟨h0,h2⟩
 .rw [if_neg h0]at h1;rw[h1]at h2;exact .inr ⟨h0,live,R,hc,h2⟩
end
def Bc8:q66_.C true:=by
 have H:Mix 3 [] [⟨1,2⟩]:=by
  refine⟨by decide,(fun d hd=>by cases hd),(fun d hd=>?_),by decide,by decide⟩;rw[zI]at hd;subst hd;exact⟨U32.of (n:=1) (by decide),U32.of (n:=2) (by decide)⟩
 have V:Val 3 [] [⟨1,2⟩]:=by
  unfold Val;decide
 have hno:¬Aa7 2 (cloX 3 [] [⟨1,2⟩] 1)=0:=by
  intro h;have:=Afi.1 h 1 (by decide);unfold cloX at this;rw[Akh,zH,zT,decide_eq_true_eq,decide_eq_true_eq]at this;rcases this.2 with h|⟨_,d,hd,_⟩
  .revert h;decide
  .cases hd
 rcases q107_.sP H V (x:=1) (y:=2) (by decide) (by decide)with⟨h,_⟩|⟨_,live,R,hc,hC⟩
 .exact absurd h hno
 .have hlen:=hc.len (by decide);have hT:=Avg (n:=3) (R:=R) (by decide) (by omega);obtain⟨r1,r2⟩:=hc.right H V;obtain⟨b,hb,hbi⟩:=Aiw hT (d:=⟨1,2⟩) (U32.of (n:=1) (by decide)) (U32.of (n:=2) (by decide));have hbf:b=false:=by
   cases b with
   |false=>rfl
   |true=>exact absurd (hbi.1 rfl) (hc.not_fd H (x:=1) (y:=2) (by decide) (by decide) hno)
  subst hbf;obtain⟨r,h1,h2⟩:=q66_.nt (fun r=>r=true) (by
   refine⟨_,Boq,_,Bor,_,hC,_,Bos,?_⟩;refine Al1 rfl ⟨_,Bot,?_⟩;refine Al1 rfl (Al1 rfl (Al1 rfl ⟨_,q50_.sP,?_⟩));refine Al1 (Ae3.2 hT) (Al1 ?_ ⟨_,q61_.both hT (fun d hd=>by cases hd) H.mok (by decide) (by decide) r1 r2,?_⟩)
   .show ((bltT 3 R).Attrs.length:Int)=3;rw[Ago (by decide)];rfl
   .exact Al1 rfl ⟨_,hb,Bjw (by decide) rfl⟩)
  subst h1;exact h2
section
variable{n x:Nat}{fds:List api_FD}{mvds:List api_MVD}
def Chased.not_mv(h:Mix n fds mvds)(hx:x<2^n){y live:Nat}{R:List Nat}(hc:Chased n fds mvds x live R)(hno:¬folX n fds mvds x y=true):¬MvP (bltT n R) x y:=by
 have hn:=h.n6;intro hm;refine hno ((hc.fol h).1 ?_);obtain⟨i0,h0⟩:=zD hc.rows.2.zero;obtain⟨i1,h1⟩:=zD hc.rows.2.top;have l0:=(zC.1 h0).1;have l1:=(zC.1 h1).1;have hlx:∀a,x.testBit a=true->live.testBit a=false:=fun a ha=>by
  cases hq:live.testBit a with
  |false=>rfl
  |true=>
   have:=hc.rows.2.lsub a hq;unfold Acn at this;rw[Aa9,ha]at this;simp at this
 have hag:∀a,x.testBit a=true->EqA (bltT n R) i0 i1 a:=fun a ha=>by
  rw[Aiv h0 h1 (Ad1.1 hx a ha),zF,hlx a ha]
 obtain⟨j,hj,e1,e2⟩:=hm i0 i1 (by rw[Ahm];exact l0) (by rw[Ahm];exact l1) hag;rw[Ahm]at hj;obtain⟨u,hu,hum⟩:=Aps hj;have:u=Aa7 live (x ||| y):=by
  apply zN;intro a;by_cases han:a<n
  .by_cases hb:(x ||| y).testBit a=true
   .have:=(Aiv hu h0 han).1 (e1 a hb);rw[this,zF,Aa9,hb];simp
   .have hb:(x ||| y).testBit a=false:=by simpa using hb
    have:=(Aiv hu h1 han).1 (e2 a (by rw[Ago (by omega)];exact han) hb);rw[this,Aa9,hb];simp
  .have t1:u.testBit a=false:=yC (zA (hc.lt hn hum) (zG (by decide) (by omega)));have t2:live.testBit a=false:=yC (zA (hc.live_lt hn) (zG (by decide) (by omega)));rw[t1,Aa9,t2];rfl
 rw[<-this];exact hum
def q115_.sP(h:Mix n fds mvds)(hv:Val n fds mvds){y:Nat}(hx:x<2^n)(hy:y<2^n):(folX n fds mvds x y=true/\q115_.C n fds mvds ⟨x,y⟩ (Ayh,10))∨(¬folX n fds mvds x y=true/\∃live R,Chased n fds mvds x live R/\q115_.C n fds mvds ⟨x,y⟩ (bltT n R,0)):=by
 have hn:=h.n6;have h32:=h.p32;obtain⟨live,R,hc,hC⟩:=q106_.sP (x:=x) h (zA hx h32);have hlen:=hc.len hn;have hlim:=q97_.sP (n:=(n:Int)) h.fok h.mok (a:=(x:Int)) (b:=(y:Int)) (U32.of (zA hx h32)) (U32.of (zA hy h32));rw[Ba7 h hv hx hy]at hlim;obtain⟨r,h1,h2⟩:=q115_.nt n fds mvds ⟨x,y⟩ (fun r=>r=if folX n fds mvds x y=true then(Ayh,10)else(bltT n R,0)) (by
  refine⟨_,hlim,?_⟩;rw[if_pos rfl];refine⟨_,q65_.sP h hv hx hy,?_⟩;by_cases h0:folX n fds mvds x y=true
  .rw [if_pos h0,if_pos h0];rfl
  .rw [if_neg h0,if_neg h0]
   exact⟨_,hC,_,q103_.all (by omega) (fun r hr=>zA (hc.lt hn hr) h32) (by omega),rfl⟩)
 by_cases h0:folX n fds mvds x y=true
 .rw [if_pos h0]at h1;rw[h1]at h2;exact .inl ⟨h0,h2⟩
 .rw [if_neg h0]at h1;rw[h1]at h2;exact .inr ⟨h0,live,R,hc,h2⟩
def Bhc{R:List Nat}:TNum (bltT n R):=by
 intro r hr v hv;obtain⟨i,hi⟩:=zD hr;have hi:(bltR n R 0)[i]?=some r:=hi;rw[Ant]at hi;obtain⟨u,_,rfl⟩:=Option.map_eq_some_iff.1 hi;have hv:v∈rowV n u:=hv;obtain⟨a,_,rfl⟩:=zE.1 hv;unfold Ak5 bitV;cases u.testBit a<;>exact⟨by decide,by decide⟩
def Chased.check(h:Mix n fds mvds)(hv:Val n fds mvds)(hx:x<2^n){y live:Nat}(hy:y<2^n){R:List Nat}(hc:Chased n fds mvds x live R)(hno:¬folX n fds mvds x y=true):Alx (bltT n R) fds mvds ⟨x,y⟩=true:=by
 have hn:=h.n6;have hlen:=hc.len hn;have hT:=Avg (n:=n) (R:=R) (by omega) (by omega);obtain⟨r1,r2⟩:=hc.right h hv;have hb:basE ((bltT n R).Attrs.length:Int) fds mvds=0:=by rw[Ago (by omega)];exact hv
 have hB:Aes (bltT n R) fds mvds=true:=Als.2 ⟨r1,fun m hm=>(r2 m hm).2⟩;have hi:inU (bltT n R).Attrs.length (x:Int) (y:Int)=true:=by
  rw[Ago (by omega)];unfold inU;rw[Aco,Aco,decide_eq_true hx,decide_eq_true hy];rfl
 unfold Alx;rw[decide_eq_true (Ae3.2 hT),decide_eq_true hb,hB,hi,Aco,Aco,Avw (hc.not_mv h hx hno)];rfl
end
def q82_.sP{n:Nat}{a b:Int}(hn:n<=16)(ha:0<=a/\a<256)(hb:0<=b/\b<256):q82_.C n (a,b) (((sN a &&& (2^n-1):Nat):Int),((sN b &&& (2^n-1):Nat):Int)):=by
 obtain⟨r,h1,h2⟩:=q82_.nt n (a,b) (fun r=>r=(((sN a &&& (2^n-1):Nat):Int),((sN b &&& (2^n-1):Nat):Int))) ⟨_,Am3 hn,by
  dsimp only
  rw[Ar1 ha hn,Ar1 hb hn]⟩
 rw[<-h1];exact h2
namespace drosslaw20_RefuteMVD
def again{J:Bool->Prop}(h:J true):L1 J:=K1 J ⟨true,Bc8,h⟩
def sP(x:drossref13_Mixed)(w:Int×Int)(hN:0<=x.D.N/\x.D.N<256)(hL:Anl x.D.L)(hM:Anl x.M)(h1:x.D.L.length<=4000000)(h2:x.M.length<=4000000)(hw1:0<=w.1/\w.1<256)(hw2:0<=w.2/\w.2<256):C x w true:=by
 obtain⟨r,e1,e2⟩:=nt x w (fun r=>r=true) (by
  refine⟨_,q98_.exact hN hL hM h1 h2,true,Bc8,?_⟩;rw[if_pos rfl];by_cases hok:x.D.L.length<=6/\x.M.length<=4
  .rw [if_pos (decide_eq_true hok)];have hn:=Ar0 (N:=x.D.N);have H:=Bob (n:=depN x.D.N) hn hok.1 hok.2;have V:=Bok (n:=depN x.D.N) hn hok.1 hok.2;generalize depN x.D.N=n at *;generalize hf:depL n x.D.L=fds at *;generalize hg:mvL (depL n x.M)=mvds at *;generalize decide (x.D.L.length<=6/\x.M.length<=4)=ok;refine⟨_,q82_.sP (by omega) hw1 hw2,?_⟩;generalize hq:sN w.1 &&& (2^n-1)=q;generalize hr:sN w.2 &&& (2^n-1)=r;have hqn:q<2^n:=by rw[<-hq];exact Ahq
   have hrn:r<2^n:=by rw[<-hr];exact Ahq
   have h32:=H.p32;have hfo:=q37_.sP H (zA hqn h32) (zA hrn h32);rcases q115_.sP H V hqn hrn with⟨h0,hC⟩|⟨h0,live,R,hc,hC⟩
   .refine ⟨_,hC,_,hfo,?_⟩;rw[if_pos h0,if_pos rfl];rfl
   .have hlen:=hc.len hn;refine⟨_,hC,_,hfo,?_⟩;have hck:=hc.check H V hqn hrn h0;have u1:=U32.of (zA hqn h32);have u2:=U32.of (zA hrn h32);have c1:=q63_.sP (t:=bltT n R) H.fok H.mok (g:=⟨(q:Int),(r:Int)⟩) u1 u2;have c2:=q104_.sP (t:=bltT n R) Bhc H.fok H.mok (g:=⟨(q:Int),(r:Int)⟩) u1 u2;rw[if_neg h0,if_pos rfl,if_pos (by show((bltT n R).Attrs.length:Int)=n;rw[Ago (by omega)])];refine⟨_,c1,?_⟩;rw[if_pos hck];exact⟨_,c2,hck⟩
  .rw [if_neg (by rw[decide_eq_true_eq];exact hok)]
   exact again rfl)
 subst e1;exact e2
def law{xs:List D}(hx:Anp env.P Aml Amm xs)(hw:wtL xs<=1048576):Ret env Amk xs (.lit (.bool true)) []:=by
 obtain⟨x0,x1,h0,h1,e⟩:=Ak7 (P:=env.P) tf hx;rw[e]at hw⊢;have hlen:x0.D.L.length<=4000000/\x0.M.length<=4000000:=by
  have h1:=At5 (x0.D.L.map Aac);have h2:=At5 (x0.M.map Aac);rw[zW]at h1 h2;simp only[Afg,wtL,wt]at hw;omega
 exact sP x0 x1 (Aoo h0.1.1) (fun x hx=>⟨Aoo (h0.1.2.2 x hx).1,Aoo (h0.1.2.2 x hx).2⟩) (fun x hx=>⟨Aoo (h0.2.2 x hx).1,Aoo (h0.2.2 x hx).2⟩) hlen.1 hlen.2 (Aoo h1.1) (Aoo h1.2)
end drosslaw20_RefuteMVD
end Go.Own
